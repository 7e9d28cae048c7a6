/- Texts that belong together. The first: The runner: operations that need a proof at their place (items). -/
import Derived.Test.YtmealahmjddpcaaGreatDoorP6
set_option linter.all false
noncomputable section
namespace Go.Sim
section
variable {F F':Hf} {g g':Gb} {B:Bs} {φ:Nat->List Nat} {s s' s1:LS} {tm:Tf} {h:Hs} {hp:Hf} {E:Env} {nt:Nat} {all l:List Oper}
def obI (a b:Int):Ob:=(.int .i64 a,.int .i64 b)
def obN (a b:Nat):Ob:=(.ms 0 0 0 a,.ms 0 0 0 b)
def obR (a b:List (List AV)):Ob:=(.slice 0 0 a,.slice 0 0 b)
def obS (a b:ByteArray):Ob:=(.str a,.str b)
def obM (a b:List (AV×AV)):List Ob:= [(.agg (a.map (·.1)),.agg (b.map (·.1))),(.agg (a.map (·.2)),.agg (b.map (·.2)))]
def LC (q:Option (List (List AV))):AV:=match q with|none=>.undef|some q=>.slice 0 0 q
def obO (a b:List (Option (List (List AV)))):Ob:=(.tup (a.map LC),.tup (b.map LC))
theorem Ew:∀{a b:List (Option (List (List AV)))},a.map LC=b.map LC->a=b
 | [],[],_=>rfl
 | [],_::_,h=>by cases h
 |_::_,[],h=>by cases h
 |x::a,y::b,h=>by
  rw[List.map_cons,List.map_cons] at h;injection h with h1 h2
  rw[Ew h2];cases x<;>cases y<;>first|rfl|(cases h1;done)|skip
  injection h1 with _ _ h1
  rw[h1]
theorem Ks {a b:List (Option (List (List AV)))} (h:(obO a b).1=(obO a b).2):a=b:=by
 injection h with h
 exact Ew h
theorem j3 {a b:Int} (h:(obI a b).1=(obI a b).2):a=b:=by unfold obI at h;simpa using h
theorem eG {a b:Nat} (h:(obN a b).1=(obN a b).2):a=b:=by unfold obN at h;simpa using h
theorem eF {a b:List (List AV)} (h:(obR a b).1=(obR a b).2):a=b:=by unfold obR at h;simpa using h
theorem vR {a b:ByteArray} (h:(obS a b).1=(obS a b).2):a=b:=by unfold obS at h;simpa using h
theorem zC:∀{a b:List (AV×AV)},a.map (·.1)=b.map (·.1)->a.map (·.2)=b.map (·.2)->a=b
 | [],[],_,_=>rfl
 | [],_::_,h,_=>by cases h
 |_::_,[],h,_=>by cases h
 |(x,y)::a,(x',y')::b,h1,h2=>by
  rw[List.map_cons,List.map_cons,List.cons.injEq] at h1 h2;obtain ⟨h3,h4⟩:=h1;obtain ⟨h5,h6⟩:=h2;have h3:x=x':=h3;have h5:y=y':=h5;rw[h3,h5,zC h4 h6]
theorem W2 {a b:List (AV×AV)} {l:List Ob} (h:cz (obM a b++l)):a=b/\cz l:=by
 obtain ⟨h1,h2,h3⟩:=h;have h1:AV.agg (a.map (·.1))=AV.agg (b.map (·.1)):=h1
 have h2:AV.agg (a.map (·.2))=AV.agg (b.map (·.2)):=h2
 exact ⟨zC (by simpa using h1) (by simpa using h2),h3⟩
inductive Sr:List (List AV)->Type
 |dat {R:List (List AV)}:Sr R
 |box {Q R:List (List AV)} {lo n:Nat} (h:(Q.drop lo).take n=R) (hn:lo+n<=Q.length):Sr R
def Dz (s:LS) (sz:Nat) (y:AV) {R:List (List AV)} (sr:Sr R):Option (List Ob):=
 match sr with
 | .dat=>(match y with
  | .aT=>some [obR [] R]
  |y=>ai (ly y) fun q=>sel (Nat.beq q.2.1 sz) (some [obR q.2.2 R]) none)
 | @Sr.box Q _ lo n _ _=>(match y with
  | .ms K sz' lo' n'=>(match lk K s.bs with
   |some (.rows _ _ Yz Q')=>sel (Nat.beq sz' sz&&Nat.beq Yz sz) (some [obR Q' Q,obN lo' lo,obN n' n]) none
   |_=>none)
  |_=>none)
theorem s8 {sz:Nat} {y:AV} {R:List (List AV)} {sr:Sr R} {obs:List Ob} (h:Dz s sz y sr=some obs) (ho:cz obs):n7 s sz y R:=by
 unfold Dz at h;cases sr with
 |dat=>
  dsimp only at h;split at h
  ·cases h;have:=eF ho.1;subst this;exact aet
  ·obtain ⟨⟨e,sz',R'⟩,h1,h⟩:=ae h;obtain ⟨h2,h⟩:=ar h;cases h;have e1:R'=R:=eF ho.1;have e2:sz'=sz:=(beq_iff _ _).1 h2;subst e1;subst e2;exact YE h1
 | @box Q _ lo n hR hn=>
  dsimp only at h;split at h
  ·rename_i K sz' lo' n';split at h
   ·rename_i z e Yz Q' hb;obtain ⟨h2,h⟩:=ar h;cases h;obtain ⟨o1,o2,o3,_⟩:=ho;have e1:=eF o1;have e2:=eG o2;have e3:=eG o3;rw[Bool.and_eq_true] at h2;have e4:sz'=sz:=(beq_iff _ _).1 h2.1;have e5:Yz=sz:=(beq_iff _ _).1 h2.2;subst e1;subst e2;subst e3;subst e4;subst e5;exact aeu hb hR hn
   ·cases h
  ·cases h
def QR (E:Env) (s:LS) (rows:List (List AV)) (n:Int) (R:List AV) (op:Op):Option Res:=
 match op with
 | .indexAddr t a ix=>aC (elemOf E t) (ly (aK s.ts a)) fun ie q=>(match aK s.ts ix with
  | .int _ n'=>sel (Nat.beq ie.size q.2.1) (some (s,.imm R,none,[obR q.2.2 rows,obI n' n])) none
  |_=>none)
 |_=>none
theorem Zt {rows:List (List AV)} {n:Int} {R:List AV} {op:Op} {r:Res} (hR:lv rows n=some R) (h:QR E s rows n R op=some r):eO E B op s r:=by
 unfold QR at h;split at h
 ·obtain ⟨ie,⟨e,sz,rows'⟩,h1,h2,h⟩:=av h;split at h
  ·rename_i hix;obtain ⟨h3,h⟩:=ar h;cases h;intro ho;obtain ⟨o1,o2,_⟩:=ho;have e1:rows'=rows:=eF o1;have e2:=j3 o2;subst e1;subst e2;exact Y2 h1 ((beq_iff _ _).1 h3) rfl h2 hix hR
  ·cases h
 ·cases h
def QS (E:Env) (s:LS) (n k:Nat) (m:Int) (op:Op):Option Res:=
 match op with
 | .indexAddr t a ix=>ai (elemOf E t) fun ie=>(match aK s.ts a,aK s.ts ix with
  | .ms K sz lo n',.int _ m'=>sel (Nat.beq ie.size sz) (some (s,.el K sz (Nat.add lo k) 0,none,[obN n' n,obI m' m])) none
  |_,_=>none)
 |_=>none
theorem Zu {n k:Nat} {m:Int} {op:Op} {r:Res} (hm:m=(k:Int)) (hk:k<n) (h:QS E s n k m op=some r):eO E B op s r:=by
 unfold QS at h;split at h
 ·obtain ⟨ie,h1,h⟩:=ae h;split at h
  ·rename_i ha hix;obtain ⟨h3,h⟩:=ar h;cases h;intro ho;obtain ⟨o1,o2,_⟩:=ho;have e1:=eG o1;have e2:=j3 o2;subst e1;subst e2;exact NF h1 ((beq_iff _ _).1 h3) ha hix hm hk
  ·cases h
 ·cases h
def QO (E:Env) (s:LS) (Q:List (List AV)) (j:Nat) (R:List AV) (op:Op):Option Res:=
 match op with
 | .load t a=>ai (E.ty.get t) fun i=>(match aK s.ts a with
  | .el K sz j' f=>(match lk K s.bs with
   |some (.rows _ _ sz' Q')=>sel (Nat.beq sz sz'&&Nat.ble (Nat.add f i.size) sz) (ai (gI i ((R.drop f).take i.size) 0) fun x=>sel (bR x).isEmpty (some (s,x,none,[obR Q' Q,obN j' j])) none) none
   |some (.hole _ sz' Q' _ _)=>sel (Nat.beq sz sz'&&Nat.ble (Nat.add f i.size) sz) (ai (gI i ((R.drop f).take i.size) 0) fun x=>sel (bR x).isEmpty (some (s,x,none,[obR Q' Q,obN j' j])) none) none
   |_=>none)
  |_=>none)
 |_=>none
theorem Zo {Q:List (List AV)} {j:Nat} {R:List AV} {op:Op} {r:Res} (hj:Q[j]? =some R) (h:QO E s Q j R op=some r):eO E B op s r:=by
 unfold QO at h;split at h
 ·obtain ⟨i,h1,h⟩:=ae h;split at h
  ·rename_i K sz j' f ha;split at h
   ·rename_i z e sz' Q' hb;obtain ⟨h2,h⟩:=ar h;obtain ⟨x,h3,h⟩:=ae h;obtain ⟨h4,h⟩:=ar h;cases h;intro ho;obtain ⟨o1,o2,_⟩:=ho;have e1:Q'=Q:=eF o1;have e2:=eG o2;rw[Bool.and_eq_true] at h2;have e3:sz=sz':=(beq_iff _ _).1 h2.1;subst e1;subst e2;subst e3;exact Qn h1 ha hb hj h2.2 h3 h4
   ·rename_i e sz' Q' i0 x0 hb;obtain ⟨h2,h⟩:=ar h;obtain ⟨x,h3,h⟩:=ae h;obtain ⟨h4,h⟩:=ar h;cases h;intro ho;obtain ⟨o1,o2,_⟩:=ho;have e1:Q'=Q:=eF o1;have e2:=eG o2;rw[Bool.and_eq_true] at h2;have e3:sz=sz':=(beq_iff _ _).1 h2.1;subst e1;subst e2;subst e3;exact NB h1 ha hb hj h2.2 h3 h4
   ·cases h
  ·cases h
 ·cases h
def QN (E:Env) (s:LS) (Q:List (List AV)) (j:Nat) (f:Nat) (xs:List AV) (Q':List (List AV)) (op:Op):Option Res:=
 match op with
 | .store t a c=>aC (E.ty.get t) (jh (aK s.ts c)) fun i xs'=>(match aK s.ts a with
  | .el K sz j' f'=>(match lk K s.bs with
   |some (.rows z e sz' Q0)=>sel (Nat.beq sz sz'&&(Nat.beq f' f&&((cM xs').isEmpty&&(Nat.beq xs'.length i.size&&Nat.ble (Nat.add f xs'.length) sz)))) (some (s.set K (.rows z e sz Q'),.tup [],some (K,false),[obR Q0 Q,obN j' j,(.agg xs',.agg xs)])) none
   |_=>none)
  |_=>none)
 |_=>none
theorem Zn {Q:List (List AV)} {j:Nat} {R:List AV} {f:Nat} {xs:List AV} {Q':List (List AV)} {op:Op} {r:Res} (hj:Q[j]? =some R) (hQ':Q.set j (cq R f xs)=Q') (h:QN E s Q j f xs Q' op=some r):eO E B op s r:=by
 subst hQ';unfold QN at h;split at h
 ·obtain ⟨i,xs',h1,hx,h⟩:=av h;split at h
  ·rename_i K sz j' f' ha;split at h
   ·rename_i z e sz' Q0 hb;obtain ⟨h2,h⟩:=ar h;cases h;intro ho;obtain ⟨o1,o2,o3,_⟩:=ho;have e1:Q0=Q:=eF o1;have e2:=eG o2;have e4:xs'=xs:=by have o3:AV.agg xs'= .agg xs:=o3;simpa using o3
    simp only[Bool.and_eq_true] at h2;obtain ⟨k1,k2,k3,k4⟩:=h2;have e3:sz=sz':=(beq_iff _ _).1 k1;have e5:f'=f:=(beq_iff _ _).1 k2;subst e1;subst e2;subst e3;subst e4;subst e5;exact Nx h1 ha rfl hx k3 hb hj (by rw[Bool.and_eq_true];exact k4)
   ·cases h
  ·cases h
 ·cases h
def QU (E:Env) (s:LS) (Q:List (List AV)) (j f:Nat) (Q':List (List AV)) (op:Op):Option Res:=
 match op with
 | .store t a c=>ai (E.ty.get t) fun i=>(match aK s.ts a,jh (aK s.ts c) with
  | .el K sz j' f',some [x]=>(match lk K s.bs with
   |some (.rows z e sz' Q0)=>sel (Nat.beq sz sz'&&(Nat.beq f' f&&(Nat.beq 1 i.size&&Nat.ble (Nat.add f 1) sz))) (some (s.set K (.hole e sz Q' (Nat.add (Nat.mul j sz) f) x),.tup [],some (K,false),[obR Q0 Q,obN j' j])) none
   |_=>none)
  |_,_=>none)
 |_=>none
theorem Zw {Q:List (List AV)} {j:Nat} {R:List AV} {f:Nat} {Q':List (List AV)} {op:Op} {r:Res} (hj:Q[j]? =some R) (hQ':Q.set j (cq R f [.undef])=Q') (h:QU E s Q j f Q' op=some r):eO E B op s r:=by
 subst hQ';unfold QU at h;split at h
 ·obtain ⟨i,h1,h⟩:=ae h;split at h
  ·rename_i K sz j' f' x ha hx;split at h
   ·rename_i z e sz' Q0 hb;obtain ⟨h2,h⟩:=ar h;cases h;intro ho;obtain ⟨o1,o2,_⟩:=ho;have e1:Q0=Q:=eF o1;have e2:=eG o2;simp only[Bool.and_eq_true] at h2;obtain ⟨k1,k2,k3,k4⟩:=h2;have e3:sz=sz':=(beq_iff _ _).1 k1;have e5:f'=f:=(beq_iff _ _).1 k2;subst e1;subst e2;subst e3;subst e5;exact Kl h1 ha rfl hx hb hj (by rw[Bool.and_eq_true];exact ⟨k3,k4⟩)
   ·cases h
  ·cases h
 ·cases h
def QT (E:Env) (s:LS) (Q:List (List AV)) (j f:Nat) (op:Op):Option Res:=
 match op with
 | .store t a c=>ai (E.ty.get t) fun i=>(match aK s.ts a,jh (aK s.ts c) with
  | .el K sz j' f',some [x]=>(match lk K s.bs with
   |some (.hole e sz' Q0 i0 x0)=>sel (Nat.beq sz sz'&&(Nat.beq f' f&&Nat.beq 1 i.size)) (some (s.set K (.hole e sz Q (Nat.add (Nat.mul j sz) f) x),.tup [],some (K,false),[obR Q0 Q,obN j' j,obN i0 (Nat.add (Nat.mul j sz) f),obN sz 1,obN f 0])) none
   |_=>none)
  |_,_=>none)
 |_=>none
theorem Zv {Q:List (List AV)} {j f:Nat} {op:Op} {r:Res} (hu:Q.flatten[j]? =some .undef) (h:QT E s Q j f op=some r):eO E B op s r:=by
 unfold QT at h;split at h
 ·obtain ⟨i,h1,h⟩:=ae h;split at h
  ·rename_i K sz j' f' x ha hx;split at h
   ·rename_i e sz' Q0 i0 x0 hb;obtain ⟨h2,h⟩:=ar h;cases h;intro ho;obtain ⟨o1,o2,o3,o4,o5,_⟩:=ho;have e1:Q0=Q:=eF o1;have e2:=eG o2;have e0:=eG o3;have e6:=eG o4;have e7:=eG o5;simp only[Bool.and_eq_true] at h2;obtain ⟨k1,k2,k3⟩:=h2;have e3:sz=sz':=(beq_iff _ _).1 k1;have e5:f'=f:=(beq_iff _ _).1 k2;subst e1;subst e2;subst e3;subst e5;subst e0;subst e6;subst e7;exact FV h1 ha rfl hx hb (by simpa using hu) k3
   ·cases h
  ·cases h
 ·cases h
def QY (E:Env) (s:LS) (b:ByteArray) (n:Int) (c:UInt8) (op:Op):Option Res:=
 match op with
 | .index t a ix=>ai (E.ty.get t) fun i=>(match aK s.ts a,aK s.ts ix with
  | .str b',.int _ n'=>sel (ow i.desc) (some (s,.int .u8 (c.toNat:Int),none,[obS b' b,obI n' n])) none
  |_,_=>none)
 |_=>none
theorem ZA {b:ByteArray} {n:Int} {c:UInt8} {op:Op} {r:Res} (hc:lv b.data.toList n=some c) (h:QY E s b n c op=some r):eO E B op s r:=by
 unfold QY at h;split at h
 ·obtain ⟨i,h1,h⟩:=ae h;split at h
  ·rename_i ha hix;obtain ⟨h3,h⟩:=ar h;cases h;intro ho;obtain ⟨o1,o2,_⟩:=ho;have e1:=vR o1;have e2:=j3 o2;subst e1;subst e2;exact ND h1 h3 ha hix hc
  ·cases h
 ·cases h
def Zp (s:LS) (n:Int) (op:Op):Option Res:=
 match op with
 | .binOp op t a b t2=>(match aK s.ts a,aK s.ts b with
  | .int k m,.int k' n'=>sel (cn k k') (ai (divL op k m n) fun x=>some (s,x,none,[obI n' n])) none
  |_,_=>none)
 |_=>none
theorem aeV {n:Int} {op:Op} {r:Res} (hn:n≠0) (h:Zp s n op=some r):eO E B op s r:=by
 unfold Zp at h;split at h
 ·split at h
  ·rename_i ha hb;obtain ⟨h3,h⟩:=ar h;obtain ⟨x,h4,h⟩:=ae h;cases h;intro ho;have e1:=j3 ho.1;subst e1;exact agr ha hb h3 hn h4
  ·cases h
 ·cases h
def QZ (s:LS) (x y:ByteArray) (op:Op):Option Res:=
 match op with
 | .binOp .add t a b t2=>(match aK s.ts a,aK s.ts b with
  | .str x',.str y'=>some (s,.str (x++y),none,[obS x' x,obS y' y])
  |_,_=>none)
 |_=>none
theorem ZB {x y:ByteArray} {op:Op} {r:Res} (hn:x.size+y.size<=1000000) (h:QZ s x y op=some r):eO E B op s r:=by
 unfold QZ at h;split at h
 ·split at h
  ·rename_i ha hb;cases h;intro ho;obtain ⟨o1,o2,_⟩:=ho;have e1:=vR o1;have e2:=vR o2;subst e1;subst e2;exact ags ha hb hn
  ·cases h
 ·cases h
def Zr (E:Env) (pks:List Nat) (s:LS) (n1 n2:Int) (l:Nat) (x:List AV) (Q':List (List AV)) (op:Op) (d:Option Nat):Option Res:=
 match op,d with
 | .makeSlice t a c,some K=>ai (gm E t) fun p=>(match aK s.ts a,aK s.ts c with
  | .int _ n1',.int _ n2'=>sel (dq p.2&&((cM (eC p.2.zero)).isEmpty&&iy pks s K)) (some (s.set K (.rows false p.1 p.2.size Q'),.ms K p.2.size 0 l,some (K,true),[obI n1' n1,obI n2' n2,(.agg (eC p.2.zero),.agg x)])) none
  |_,_=>none)
 |_,_=>none
def QW (E:Env) (s:LS) (rows:List (List AV)) (lo hi:Int) (R:List (List AV)) (op:Op):Option Res:=
 match op with
 | .slice t a o1 o2 none=>aC (gm E t) (ly (aK s.ts a)) fun p q=>aC (mX s.ts o1) (mX s.ts o2) fun b1 b2=>sel (Nat.beq q.1 p.1&&Nat.beq q.2.1 p.2.size) (some (s,Ac (aK s.ts a) o1 p.1 p.2.size R,none,[obR q.2.2 rows,obI (b1.getD 0) lo,obI (b2.getD (q.2.2.length:Nat)) hi])) none
 |_=>none
theorem Zy {rows R:List (List AV)} {lo hi:Int} {l u:Nat} {op:Op} {r:Res} (h1:lo=(l:Int)) (h2:hi=(u:Int)) (hlu:l<=u) (hum:u<=rows.length) (hR:(rows.drop l).take (u-l)=R) (h:QW E s rows lo hi R op=some r):eO E B op s r:=by
 unfold QW at h;split at h
 ·obtain ⟨p,⟨e,sz,rows'⟩,h3,h4,h⟩:=av h;obtain ⟨b1,b2,h5,h6,h⟩:=av h;obtain ⟨h7,h⟩:=ar h;cases h;intro ho;obtain ⟨o1,o2,o3,_⟩:=ho;have e1:rows'=rows:=eF o1;have e2:=j3 o2;have e3:=j3 o3;rw[Bool.and_eq_true] at h7;have e4:e=p.1:=(beq_iff _ _).1 h7.1;have e5:sz=p.2.size:=(beq_iff _ _).1 h7.2;subst e1;subst e4;subst e5;exact ok_slice h3 rfl h4 h5 h6 (e2.trans h1) (e3.trans h2) hlu hum hR
 ·cases h
def KJ (E:Env) (s:LS) (rows:List (List AV)) (hi mx:Int) (R:List (List AV)) (op:Op):Option Res:=
 match op with
 | .slice t a none (some o2) (some o3)=>aC (gm E t) (GG (aK s.ts a)) fun p q=>aC (mX s.ts (some o2)) (mX s.ts (some o3)) fun b2 b3=>aC b2 b3 fun n2 n3=>sel (Nat.beq q.1 p.1&&Nat.beq q.2.1 p.2.size) (some (s,.slf p.1 p.2.size R,none,[obR q.2.2 rows,obI n2 hi,obI n3 mx])) none
 |_=>none
theorem Xs {rows R:List (List AV)} {hi mx:Int} {u:Nat} {op:Op} {r:Res} (h2:hi=(u:Int)) (h3:mx=(u:Int)) (hum:u<=rows.length) (hR:rows.take u=R) (h:KJ E s rows hi mx R op=some r):eO E B op s r:=by
 unfold KJ at h;split at h
 ·obtain ⟨p,⟨e,sz,rows'⟩,h4,h5,h⟩:=av h;obtain ⟨b2,b3,h6,h7,h⟩:=av h;obtain ⟨n2,n3,h8,h9,h⟩:=av h;obtain ⟨h10,h⟩:=ar h;cases h;intro ho;obtain ⟨o1,o2,o3,_⟩:=ho;have e1:rows'=rows:=eF o1;have e2:=j3 o2;have e3:=j3 o3;rw[Bool.and_eq_true] at h10;have e4:e=p.1:=(beq_iff _ _).1 h10.1;have e5:sz=p.2.size:=(beq_iff _ _).1 h10.2;subst e1;subst e4;subst e5;subst h8;subst h9;exact WW h4 rfl h5 h6 h7 (e2.trans h2) (e3.trans h3) hum hR
 ·cases h
def KH (E:Env) (s:LS) (Q:List (List AV)) (lo0 n:Nat) (lo hi:Int) (l u:Nat) (op:Op):Option Res:=
 match op with
 | .slice t a o1 o2 none=>ai (gm E t) fun p=>aC (mX s.ts o1) (mX s.ts o2) fun b1 b2=>(match aK s.ts a with
  | .ms K sz lo' n'=>(match lk K s.bs with
   |some (.rows _ e sz' Q')=>sel (Nat.beq e p.1&&(Nat.beq sz p.2.size&&Nat.beq sz' p.2.size)) (some (s,.ms K p.2.size (Nat.add lo0 l) (Nat.sub u l),none,[obR Q' Q,obN lo' lo0,obN n' n,obI (b1.getD 0) lo,obI (b2.getD (n:Nat)) hi])) none
   |_=>none)
  |_=>none)
 |_=>none
theorem Xr {Q:List (List AV)} {lo0 n:Nat} {lo hi:Int} {l u:Nat} {op:Op} {r:Res} (h1:lo=(l:Int)) (h2:hi=(u:Int)) (hlu:l<=u) (hum:u<=n) (hn:lo0+n<=Q.length) (h:KH E s Q lo0 n lo hi l u op=some r):eO E B op s r:=by
 unfold KH at h;split at h
 ·obtain ⟨p,h3,h⟩:=ae h;obtain ⟨b1,b2,h5,h6,h⟩:=av h;split at h
  ·rename_i K sz lo' n' ha;split at h
   ·rename_i z e sz' Q' hb;obtain ⟨h7,h⟩:=ar h;cases h;intro ho;obtain ⟨o1,o2,o3,o4,o5,_⟩:=ho;have e1:=eF o1;have e2:=eG o2;have e3:=eG o3;have e4:=j3 o4;have e5:=j3 o5;rw[Bool.and_eq_true,Bool.and_eq_true] at h7;have e6:e=p.1:=(beq_iff _ _).1 h7.1;have e7:sz=p.2.size:=(beq_iff _ _).1 h7.2.1;have e8:sz'=p.2.size:=(beq_iff _ _).1 h7.2.2;subst e1;subst e2;subst e3;subst e6;subst e7;subst e8;exact Nz h3 ha hb h5 h6 (e4.trans h1) (e5.trans h2) hlu hum hn
   ·cases h
  ·cases h
 ·cases h
def C2 (b:Builtin) (op:Op):Option ((Operand×Operand)×TypeId×TypeId):=
 match op with
 | .call c=>(match c.callee with
  | .builtin b'=>sel (decide (b'=b)) (match c.args.toList,c.argTypes.toList with
   | [a,y],[t1,t2]=>some ((a,y),t1,t2)
   |_,_=>none) none
  |_=>none)
 |_=>none
theorem rC {b:Builtin} {op:Op} {q:(Operand×Operand)×TypeId×TypeId} (h:C2 b op=some q):∃c,op= .call c/\c.callee= .builtin b/\c.args.toList= [q.1.1,q.1.2]/\c.argTypes.toList= [q.2.1,q.2.2]:=by
 unfold C2 at h;split at h
 ·rename_i c;split at h
  ·rename_i b' hc;obtain ⟨h1,h2⟩:=ar h;clear h;have e:b'=b:=by simpa using h1
   split at h2
   ·rename_i ha ht;cases h2;exact ⟨c,rfl,by rw[hc,e],ha,ht⟩
   ·cases h2
  ·cases h
 ·cases h
def Gn (E:Env) (pks:List Nat) (s:LS) (w:Bool) (Q P R Q':List (List AV)) (n n':Nat) (sr:Sr R) (op:Op) (d:Option Nat):Option Res:=
 ai (C2 .append op) fun q=>aC (gm E q.2.1) (E.ty.get q.2.2) fun p i2=>ai (Dz s p.2.size (aK s.ts q.1.2) sr) fun obs=>(match aK s.ts q.1.1 with
  | .ms K sz lo n0=>(match lk K s.bs with
   |some (.rows z e sz' Q0)=>sel (dq p.2&&(kf i2.desc&&(Nat.beq lo 0&&(Nat.beq sz p.2.size&&(Nat.beq sz' p.2.size&&(Nat.beq e p.1 && !ep K pks)))))) (some ((s.df K).set K (.rows (w&&z) e sz Q'),.ms K sz 0 n',some (K,false),obR Q0 Q::obN n0 n::obs)) none
   |_=>none)
  | .aT=>ai d fun K=>(match lk K s.bs with
   |some (.rows true e sz' [])=>sel (dq p.2&&(kf i2.desc&&(Nat.beq sz' p.2.size&&(Nat.beq e p.1 && !ep K pks)))) (some ((s.df K).set K (.rows true e sz' Q'),.ms K sz' 0 n',some (K,false),obR [] Q::obN 0 n::obs)) none
   |_=>none)
  |_=>none)
theorem KK {pks:List Nat} {w:Bool} {Q P R Q':List (List AV)} {n n':Nat} {sr:Sr R} {op:Op} {d:Option Nat} {r:Res} (hB:BOK pks B) (hw:w=true->n=Q.length) (hP:Q.take n=P) (hn:n<=Q.length) (hn6:n<=1000000) (hR:R.length<=1000000) (hQ':P++R=Q') (hl:Q'.length=n') (h:Gn E pks s w Q P R Q' n n' sr op d=some r):eO E B op s r:=by
 subst hl;subst hQ';unfold Gn at h;obtain ⟨⟨⟨a,y⟩,t1,t2⟩,h1,h0⟩:=ae h;clear h;obtain ⟨c,rfl,hc1,hc2,hc3⟩:=rC h1;have h:=h0;clear h0;obtain ⟨p,i2,h2,h3,h⟩:=av h;obtain ⟨obs,h4,h⟩:=ae h;split at h
 ·rename_i K sz lo n0 ha;split at h
  ·rename_i z e sz' Q0 hb;obtain ⟨h5,h⟩:=ar h;cases h;intro ho;obtain ⟨o1,o2,o3⟩:=ho;have e1:=eF o1;have e2:=eG o2;simp only[Bool.and_eq_true] at h5;obtain ⟨k1,k2,k3,k4,k5,k6,k7⟩:=h5;have e3:lo=0:=(beq_iff _ _).1 k3;have e4:sz=p.2.size:=(beq_iff _ _).1 k4;have e5:sz'=p.2.size:=(beq_iff _ _).1 k5;have e6:e=p.1:=(beq_iff _ _).1 k6;subst e1;subst e2;subst e3;subst e4;subst e5;subst e6;refine W1 hc1 hc2 hc3 h2 k1 h3 k2 ha rfl (s8 h4 o3) hP hn hn6 hR (fun hz=> ?_) hb (hB K (by simpa using k7))
   rw[Bool.and_eq_true] at hz;exact ⟨hz.2,hw hz.1⟩
  ·cases h
 ·rename_i ha;obtain ⟨K,hd,h⟩:=ae h;split at h
  ·rename_i e sz' hb;obtain ⟨h5,h⟩:=ar h;cases h;intro ho;obtain ⟨o1,o2,o3⟩:=ho;have e1:=eF o1;have e2:=eG o2;simp only[Bool.and_eq_true] at h5;obtain ⟨k1,k2,k5,k6,k7⟩:=h5;have e5:sz'=p.2.size:=(beq_iff _ _).1 k5;have e6:e=p.1:=(beq_iff _ _).1 k6;subst e1;subst e2;subst e5;subst e6;have hP':P= []:=by rw[<-hP];rfl
   subst hP';exact Qr hc1 hc2 hc3 h2 k1 h3 k2 ha rfl (s8 h4 o3) hR hb (hB K (by simpa using k7))
  ·cases h
 ·cases h
def KL (E:Env) (pks:List Nat) (s:LS) (Q R Q':List (List AV)) (n':Nat) (sr:Sr R) (op:Op) (d:Option Nat):Option Res:=
 ai (C2 .append op) fun q=>aC (gm E q.2.1) (E.ty.get q.2.2) fun p i2=>aC (Dz s p.2.size (aK s.ts q.1.2) sr) d fun obs K=>(match aK s.ts q.1.1 with
  | .slf _ sz Q0=>sel (dq p.2&&(kf i2.desc&&(Nat.beq sz p.2.size&&iy pks s K))) (some (s.set K (.rows true p.1 p.2.size Q'),.ms K p.2.size 0 n',some (K,true),obR Q0 Q::obs)) none
  |_=>none)
theorem Xt {pks:List Nat} {Q R Q':List (List AV)} {n':Nat} {sr:Sr R} {op:Op} {d:Option Nat} {r:Res} (hB:BOK pks B) (hn6:Q.length<=1000000) (hR:R.length<=1000000) (hne:R≠ []) (hQ':Q++R=Q') (hl:Q'.length=n') (h:KL E pks s Q R Q' n' sr op d=some r):eO E B op s r:=by
 subst hl;subst hQ';unfold KL at h;obtain ⟨⟨⟨a,y⟩,t1,t2⟩,h1,h0⟩:=ae h;clear h;obtain ⟨c,rfl,hc1,hc2,hc3⟩:=rC h1;have h:=h0;clear h0;obtain ⟨p,i2,h2,h3,h⟩:=av h;obtain ⟨obs,K,h4,hd,h⟩:=av h;split at h
 ·rename_i e0 sz Q0 ha;obtain ⟨h5,h⟩:=ar h;cases h;intro ho;obtain ⟨o1,o3⟩:=ho;have e1:=eF o1;simp only[Bool.and_eq_true] at h5;obtain ⟨k1,k2,k4,k5⟩:=h5;have e4:sz=p.2.size:=(beq_iff _ _).1 k4;subst e1;subst e4;obtain ⟨f1,f2⟩:=jH hB k5;exact Qq hc1 hc2 hc3 h2 k1 h3 k2 ha rfl (s8 h4 o3) hne hn6 hR f1 f2
 ·cases h
def D8 (E:Env) (s:LS) {R:List (List AV)} (sr:Sr R) (op:Op):Option Res:=
 ai (C2 .append op) fun q=>aC (gm E q.2.1) (E.ty.get q.2.2) fun p i2=>ai (Dz s p.2.size (aK s.ts q.1.2) sr) fun obs=>(match aK s.ts q.1.1 with
  | .slf e sz Q0=>sel (dq p.2&&(kf i2.desc&&Nat.beq sz p.2.size)) (some (s,.slf e sz Q0,none,obs)) none
  |_=>none)
theorem Q1 {R:List (List AV)} {sr:Sr R} {op:Op} {r:Res} (hR:R= []) (h:D8 E s sr op=some r):eO E B op s r:=by
 subst hR;unfold D8 at h;obtain ⟨⟨⟨a,y⟩,t1,t2⟩,h1,h0⟩:=ae h;clear h;obtain ⟨c,rfl,hc1,hc2,hc3⟩:=rC h1;have h:=h0;clear h0;obtain ⟨p,i2,h2,h3,h⟩:=av h;obtain ⟨obs,h4,h⟩:=ae h;split at h
 ·rename_i e sz Q0 ha;obtain ⟨h5,h⟩:=ar h;cases h;intro ho;simp only[Bool.and_eq_true] at h5;obtain ⟨k1,k2,k4⟩:=h5;have e4:sz=p.2.size:=(beq_iff _ _).1 k4;subst e4;exact NH hc1 hc2 hc3 h2 k1 h3 k2 ha rfl (s8 h4 ho)
 ·cases h
def QX (E:Env) (s:LS) (Q R Q':List (List AV)) (lo n m:Nat) (sr:Sr R) (op:Op):Option Res:=
 ai (C2 .copy op) fun q=>ai (gm E q.2.1) fun p=>(match aK s.ts q.1.1 with
  | .ms K sz lo' n'=>(match lk K s.bs with
   |some (.rows z e sz' Q2)=>ai (Dz s p.2.size (aK s.ts q.1.2) sr) fun obs=>sel (dq p.2&&(Nat.beq sz p.2.size&&Nat.beq sz' p.2.size)) (some (s.set K (.rows z e sz Q'),.int .i64 (m:Int),some (K,false),obR Q2 Q::obN lo' lo::obN n' n::obs)) none
   |_=>none)
  |_=>none)
theorem Zz {Q R Q':List (List AV)} {lo n m:Nat} {sr:Sr R} {op:Op} {r:Res} (hn:lo+n<=Q.length) (hm:m=min R.length n) (hQ':Q'=Q.take lo++R.take m++Q.drop (lo+m)) (hne:Q≠ []) (h:QX E s Q R Q' lo n m sr op=some r):eO E B op s r:=by
 unfold QX at h;obtain ⟨⟨⟨a,y⟩,t1,t2⟩,h1,h0⟩:=ae h;clear h;obtain ⟨c,rfl,hc1,hc2,hc3⟩:=rC h1;have h:=h0;clear h0;obtain ⟨p,h2,h⟩:=ae h;split at h
 ·rename_i K sz lo' n' ha;split at h
  ·rename_i z e sz' Q2 hb;obtain ⟨obs,h4,h⟩:=ae h;obtain ⟨h5,h⟩:=ar h;cases h;intro ho;obtain ⟨o1,o2,o3,o4⟩:=ho;have e1:=eF o1;have e2:=eG o2;have e3:=eG o3;simp only[Bool.and_eq_true] at h5;obtain ⟨k1,k2,k3⟩:=h5;have e4:sz=p.2.size:=(beq_iff _ _).1 k2;have e5:sz'=p.2.size:=(beq_iff _ _).1 k3;subst e1;subst e2;subst e3;subst e4;subst e5;exact aeL hc1 hc2 hc3 h2 k1 ha rfl (s8 h4 o4) hn hm hQ' hb hne
  ·cases h
 ·cases h
def QP (s:LS) (b:ByteArray) (pos:Nat) (op:Op):Option Res:=
 match op with
 | .next it true=>(match aK s.ts it with
  | .it K=>(match lk K s.bs with
   |some (.iter b' pos')=>some (s.set K (.iter b (Nat.add pos (Utf8.decode b pos).2)),.tup [.bool true,.int .i64 (pos:Int),.int .i32 (Utf8.decode b pos).1],some (K,false),[obS b' b,obN pos' pos])
   |_=>none)
  |_=>none)
 |_=>none
theorem Zq {b:ByteArray} {pos:Nat} {op:Op} {r:Res} (hlt:pos<b.size) (h:QP s b pos op=some r):eO E B op s r:=by
 unfold QP at h;split at h
 ·split at h
  ·rename_i ha;split at h
   ·rename_i hb;cases h;intro ho;obtain ⟨o1,o2,_⟩:=ho;have e1:=vR o1;have e2:=eG o2;subst e1;subst e2;exact aeH ha hb hlt
   ·cases h
  ·cases h
 ·cases h
def QV (s:LS) (b:ByteArray) (pos:Nat) (op:Op):Option Res:=
 match op with
 | .next it true=>(match aK s.ts it with
  | .it K=>(match lk K s.bs with
   |some (.iter b' pos')=>some (s,.tup [.bool false],none,[obS b' b,obN pos' pos])
   |_=>none)
  |_=>none)
 |_=>none
theorem Zx {b:ByteArray} {pos:Nat} {op:Op} {r:Res} (hlt:¬pos<b.size) (h:QV s b pos op=some r):eO E B op s r:=by
 unfold QV at h;split at h
 ·split at h
  ·rename_i ha;split at h
   ·rename_i hb;cases h;intro ho;obtain ⟨o1,o2,_⟩:=ho;have e1:=vR o1;have e2:=eG o2;subst e1;subst e2;exact Ql ha hb hlt
   ·cases h
  ·cases h
 ·cases h
def QQ (E:Env) (s:LS) (es:List (AV×AV)) (k x z:AV) (ok:Bool) (op:Op):Option Res:=
 match op with
 | .lookup t a c ok'=>ai (Kw E t) fun p=>(match aK s.ts a with
  | .mp K=>(match lk K s.bs with
   |some (.map es')=>sel (KG k p.1.desc&&(ok==ok'&&(bR x).isEmpty)) (ai (gI p.2 (eC p.2.zero) 0) fun z'=>some (s,x,none,obM es' es++ [(aK s.ts c,k),(z',z)])) none
   |_=>none)
  |_=>none)
 |_=>none
theorem Zs {es:List (AV×AV)} {k x z:AV} {ok:Bool} {op:Op} {r:Res} (hf:∃f,iG k es=some f/\wA ok (some z) f=some x) (h:QQ E s es k x z ok op=some r):eO E B op s r:=by
 obtain ⟨f,hf,hx⟩:=hf;unfold QQ at h;split at h
 ·obtain ⟨p,h1,h⟩:=ae h;split at h
  ·rename_i ha;split at h
   ·rename_i hb;obtain ⟨h2,h⟩:=ar h;obtain ⟨z',h3,h⟩:=ae h;cases h;intro ho;obtain ⟨e1,o2,o3,_⟩:=W2 ho;have o2:aK s.ts _=k:=o2;have o3:z'=z:=o3;simp only[Bool.and_eq_true,beq_iff_eq] at h2;obtain ⟨k1,k2,k3⟩:=h2;subst e1;subst o3;subst k2;exact WY h1 ha o2 k1 hb hf (by rw[h3];exact hx) k3
   ·cases h
  ·cases h
 ·cases h
def QM (E:Env) (s:LS) (es es':List (AV×AV)) (k x:AV) (op:Op):Option Res:=
 match op with
 | .mapUpdate t a c d=>ai (Kw E t) fun p=>(match aK s.ts a with
  | .mp K=>(match lk K s.bs with
   |some (.map es0)=>sel (KG k p.1.desc) (ai (ndf (aK s.ts d)) fun x'=>sel (bR x).isEmpty (some (s.set K (.map es'),.tup [],some (K,false),obM es0 es++ [(aK s.ts c,k),(x',x)])) none) none
   |_=>none)
  |_=>none)
 |_=>none
theorem Zm {es es':List (AV×AV)} {k x:AV} {op:Op} {r:Res} (hf:∃f,iG k es=some f/\CY es k x f=es') (h:QM E s es es' k x op=some r):eO E B op s r:=by
 obtain ⟨f,hf,hx⟩:=hf;subst hx;unfold QM at h;split at h
 ·obtain ⟨p,h1,h⟩:=ae h;split at h
  ·rename_i ha;split at h
   ·rename_i hb;obtain ⟨h2,h⟩:=ar h;obtain ⟨x',h3,h⟩:=ae h;obtain ⟨h5,h6⟩:=nm h3;obtain ⟨h4,h⟩:=ar h;cases h;intro ho;obtain ⟨e1,o2,o3,_⟩:=W2 ho;have o2:aK s.ts _=k:=o2;have o3:x'=x:=o3;subst e1;subst o3;exact WU (fun _ _ _=>rfl) h1 ha o2 h2 h5 (h5 ▸ h6) h4 hb hf
   ·cases h
  ·cases h
 ·cases h
end
section
variable {F F':Hf} {g g':Gb} {B:Bs} {φ:Nat->List Nat} {s s' s1:LS} {tm:Tf} {h:Hs} {hp:Hf} {E:Env} {nt:Nat} {all l:List Oper}
inductive P1 where
 |same|sl (e s:Nat)|sn (e s:Nat)|sx (e s:Nat)|un|nl
inductive PM where
 |one (m:P1)|agg (ms:List P1)
def P1.app (m:P1) (x:AV):AV:=
 match m with
 | .same=>x
 | .un=>.undef
 | .sl e s=>(match x with
  | .aT=>.slice e s []
  | .sln e' s' rows=>.slice e' s' rows
  | .slf e' s' rows=>.slice e' s' rows
  |x=>x)
 | .sn e s=>(match x with
  | .aT=>.sln e s []
  |x=>x)
 | .sx e s=>(match x with
  | .aT=>.slx e s []
  | .slice e' s' rows=>.slx e' s' rows
  | .sln e' s' rows=>.slx e' s' rows
  | .slf e' s' rows=>.slx e' s' rows
  |x=>x)
 | .nl=>(match x with
  | .sln _ _ []=>.aT
  |x=>x)
def apps:List P1->List AV->List AV
 |m::ms,x::xs=>m.app x::apps ms xs
 |_,xs=>xs
def PM.app (m:PM) (x:AV):AV:=
 match m with
 | .one m=>m.app x
 | .agg ms=>(match x with| .agg xs=>.agg (apps ms xs)|x=>x)
theorem P1.va (m:P1) {x:AV} {v:SV} (h:VA F g v x):VA F g v (m.app x):=by
 unfold P1.app;split
 ·exact h
 ·exact .undef v
 ·split
  ·cases h;exact .iY _ _
  ·cases h with
   |ni=>exact .iY _ _
   |sln hF hc hn hz hu hl h=>exact .slice hF hc hn hu hl h
  ·cases h with
   |sA=>exact .iY _ _
   |slf hF hn hu hl h=>exact .slice hF (Nat.le_refl _) hn hu hl h
  ·exact h
 ·split
  ·cases h;exact .ni _ _
  ·exact h
 ·split
  ·cases h;exact .mD _ _
  ·cases h with
   |iY=>exact .mD _ _
   |slice hF hc hn hu hl h=>exact .slx hF hc hn hu hl h
  ·cases h with
   |ni=>exact .mD _ _
   |sln hF hc hn hz hu hl h=>exact .slx hF hc hn hu hl h
  ·cases h with
   |sA=>exact .mD _ _
   |slf hF hn hu hl h=>exact .slx hF (Nat.le_refl _) hn hu hl h
  ·exact h
 ·split
  ·cases h with
   |ni=>exact .aT
   |sln hF hc hn hz=>exact absurd rfl hz
  ·exact h
theorem xR:∀{ms:List P1} {xs:List AV} {vs:List SV},VAs F g vs xs->VAs F g vs (apps ms xs)
 | [],xs,_,h=>by cases xs<;>exact h
 |m::ms,[],_,h=>h
 |m::ms,x::xs,_,.cons h t=>.cons (m.va h) (xR t)
theorem L1:∀(ms:List P1) (xs:List AV),(apps ms xs).length=xs.length
 | [],xs=>by cases xs<;>rfl
 |m::ms,[]=>rfl
 |m::ms,x::xs=>by show (apps ms xs).length+1=_;rw[L1 ms xs];rfl
theorem VAs.cutAt:∀{r R:List AV} {vs:List SV},VAs F g vs (r++R)->∃v1 v2,vs=v1++v2/\VAs F g v1 r/\VAs F g v2 R
 | [],R,vs,h=>⟨[],vs,rfl,.nil,h⟩
 |x::r,R,_,.cons h t=>by
  obtain ⟨v1,v2,e,a,b⟩:=VAs.cutAt (r:=r) t;exact ⟨_::v1,v2,by rw[e];rfl,.cons h a,b⟩
theorem FB {ms:List P1}:∀{Q:List (List AV)} {vs:List SV},VAs F g vs Q.flatten->VAs F g vs (Q.map (apps ms)).flatten
 | [],_,h=>h
 |r::Q,vs,h=>by
  obtain ⟨v1,v2,e,a,b⟩:=VAs.cutAt (r:=r) (R:=Q.flatten) h;subst e;exact (xR a).append (FB b)
theorem NV {z:Bool} {e:TypeId} {sz:Nat} {Q:List (List AV)} (ms:List P1):WB (.rows z e sz Q) (.rows z e sz (Q.map (apps ms))):=fun F g h K fp q=>by
 cases q with
 |cI hb=>exact .cI hb
 |rows hb hh hz hu hc q=>
  refine .rows hb hh (fun e=> ?_) (fun r hr=> ?_) (by rw[List.length_map];exact hc) (by rw[List.length_map];exact FB q)
  ·intro hq;exact hz e (List.map_eq_nil_iff.1 hq)
  ·obtain ⟨r0,h0,e0⟩:=List.mem_map.1 hr;rw[<-e0,L1];exact hu r0 h0
theorem aO.box {op:Op} {x:AV} {K:Nat} {b b':Bx} {l:Bool} (hy:aO E B op s (s.set K b) x (some (K,l))) (hw:WB b b'):aO E B op s (s.set K b') x (some (K,l)):=.mk fun {F g φ tm hh new} r h1 h2=>by
 have less:lp (s.set K b) (s.set K b'):=⟨fun t y hy=>.inr ⟨y,hy,WV.refl y⟩,fun k c hc=>by
  rw[show (s.set K b').bs=(K,b')::s.bs from rfl,bh] at hc;rw[show (s.set K b).bs=(K,b)::s.bs from rfl,bh];split at hc
  ·rename_i e;cases hc;rw[if_pos e];exact ⟨b,rfl,hw⟩
  ·rename_i e;rw[if_neg e];exact ⟨c,hc,WB.refl c⟩⟩
 obtain ⟨v,us,a1,a2,a3,a4,a5,a6⟩:=hy.go r h1 h2;refine ⟨v,us,a1,a2,fun h' hu=>(a3 h' hu).less less,a4,fun k c hc=> ?_,fun k hk=>p8 (hk.elim .inl fun ⟨l,hl⟩=>.inr (by cases hl;rfl))⟩
 obtain ⟨c0,hc0,_⟩:=less.2 k c hc;exact a5 k c0 hc0
theorem aeW {pks:List Nat} {n1 n2:Int} {l m:Nat} {x:List AV} {Q':List (List AV)} {op:Op} {d:Option Nat} {r:Res} (hB:BOK pks B) (h1:n1=(l:Int)) (h2:n2=(m:Int)) (hl:l<=m) (hm:m<=1000000) (ms:List P1) (hQ':(List.replicate l x).map (apps ms)=Q') (h:Zr E pks s n1 n2 l x Q' op d=some r):eO E B op s r:=by
 subst hQ';unfold Zr at h;split at h
 ·obtain ⟨p,h3,h⟩:=ae h;split at h
  ·rename_i ha hc;obtain ⟨h4,h⟩:=ar h;cases h;intro ho;obtain ⟨o1,o2,o3,_⟩:=ho;have e1:=j3 o1;have e2:=j3 o2;have e3:eC p.2.zero=x:=by have o3:AV.agg (eC p.2.zero)= .agg x:=o3;simpa using o3
   subst e1;subst e2;subst e3;rw[Bool.and_eq_true,Bool.and_eq_true] at h4;obtain ⟨f1,f2⟩:=jH hB h4.2.2;exact (Km h3 h4.1 ha hc h1 h2 hl hm f1 f2 h4.2.1).box (NV ms)
  ·cases h
 ·cases h
theorem PM.va (m:PM) {x:AV} {v:SV} (h:VA F g v x):VA F g v (m.app x):=by
 unfold PM.app;split
 ·exact P1.va _ h
 ·split
  ·cases h with|agg h=>exact .agg (xR h)
  ·exact h
theorem PM.wv (m:PM) (x:AV):WV x (m.app x):=.inr fun _ _ _ h=>m.va h
def GQ:List PM->List AV->List AV
 |m::ms,x::xs=>m.app x::GQ ms xs
 |_,xs=>xs
theorem L5:∀{ms:List PM} {xs:List AV} {vs:List SV},VAs F g vs xs->VAs F g vs (GQ ms xs)
 | [],xs,_,h=>by cases xs<;>exact h
 |m::ms,[],_,h=>h
 |m::ms,x::xs,_,.cons h t=>.cons (m.va h) (L5 t)
inductive PB where
 |same|flat (ms:List P1)|any|hol (m:P1)|rws (ms:List P1)
def PB.app (m:PB) (b:Bx):Bx:=
 match m with
 | .same=>b
 | .flat ms=>(match b with| .flat e cs=>.flat e (apps ms cs)|b=>b)
 | .any=>(match b with| .rows _ e s Q=>.rows false e s Q|b=>b)
 | .hol m=>(match b with| .hole e s Q i x=>.hole e s Q i (m.app x)| .own e e' s Q o=>.own e e' s Q (D1 m.app o)|b=>b)
 | .rws ms=>(match b with| .rows z e s Q=>.rows z e s (Q.map (apps ms))|b=>b)
theorem PB.wb (m:PB) (b:Bx):WB b (m.app b):=fun F g h K fp q=>by
 unfold PB.app;split
 ·exact q
 ·split
  ·cases q with|flat hh q=>exact .flat hh (xR q)
  ·exact q
 ·split
  ·cases q with
   |cI hb=>exact .cI hb
   |rows hb hh hz hu hc q=>exact .rows hb hh (fun e=>by cases e) hu hc q
  ·exact q
 ·split
  ·cases q with|hole hb hh hu hc q hi hv hx=>exact .hole hb hh hu hc q hi hv (P1.va _ hx)
  ·cases q with
   |jN hb=>exact .jN hb
   |own hb hh hc q nd ho=>
    refine .own hb hh hc q nd fun i x e=> ?_
    obtain ⟨y,e1,rfl⟩:=ot e;subst e1;obtain ⟨a,v,b,c⟩:=ho i y rfl;exact ⟨a,v,b,P1.va _ c⟩
  ·exact q
 ·split
  ·exact NV _ _ _ _ _ _ q
  ·exact q
def YT (o:Option (Nat×AV)):List AV:=match o with|none=> []|some p=> [.loc p.1 0,p.2]
theorem aeC:∀{a b:Option (Nat×AV)},YT a=YT b->a=b
 |none,none,_=>rfl
 |none,some _,h=>by cases h
 |some _,none,h=>by cases h
 |some p,some q,h=>by
  injection h with h1 h
  injection h with h2 _
  injection h1 with h1 _
  rw[Prod.ext h1 h2]
def bxA (b:Bx):AV:=
 match b with
 | .flat e cs=>.fn e [] cs
 | .rows true e s Q=>.sln e s Q
 | .rows false e s Q=>.slice e s Q
 | .map es=>.tup [.agg (es.map (·.1)),.agg (es.map (·.2))]
 | .iter b pos=>.ifc pos (.str b)
 | .hole e s Q i x=>.tup [.sln e s Q,.loc i 0,x]
 | .own e e' s Q o=>.tup (.loc e e':: .loc s 0:: .tup (Q.map LC)::YT o)
theorem B1 {a b:Bx} (h:bxA a=bxA b):a=b:=by
 unfold bxA at h;split at h<;>split at h<;>first|(cases h;done)|skip
 ·injection h with h1 h2 h3;subst h1;subst h3;rfl
 ·injection h with h1 h2 h3;subst h1;subst h2;subst h3;rfl
 ·injection h with h1 h2 h3;subst h1;subst h2;subst h3;rfl
 ·injection h with h1
  injection h1 with h1 h2
  injection h2 with h2 h3
  injection h1 with h1
  injection h2 with h2
  rw[zC h1 h2]
 ·injection h with h1 h2;injection h2 with h2;subst h1;subst h2;rfl
 ·injection h with h1
  injection h1 with h1 h2
  injection h1 with h3 h4 h5
  injection h2 with h6 h7
  injection h6 with h6 _
  injection h7 with h7 _
  subst h3;subst h4;subst h5;subst h6;subst h7;rfl
 ·injection h with h
  injection h with h1 h
  injection h with h2 h
  injection h with h3 h
  injection h1 with h1 h4
  injection h2 with h2 _
  injection h3 with h3
  have h3:=Ew h3;subst h1;subst h2;subst h3;subst h4;rw[aeC h]
inductive It (E:Env):Type
 |eqv {x y:AV} (h:x=y)
 |idx {rows:List (List AV)} {n:Int} {R:List AV} (h:lv rows n=some R)
 |idb {n k:Nat} {m:Int} (h:m=(k:Int)) (hk:k<n)
 |row {Q:List (List AV)} {j:Nat} {R:List AV} (h:Q[j]? =some R)
 |hol {Q:List (List AV)} {j:Nat} {R:List AV} {f:Nat} {Q':List (List AV)} (h:Q[j]? =some R) (hQ:Q.set j (cq R f [.undef])=Q')
 |opn {Q:List (List AV)} {j:Nat} {x:AV} {Q':List (List AV)} (K:Nat) (h:Q[j]? =some [x]) (hQ:Q.set j [.undef]=Q')
 |hst {Q:List (List AV)} {j f:Nat} (hu:Q.flatten[j]? =some .undef)
 |clo {Q:List (List AV)} {j:Nat} {R:List AV} {f:Nat} {x:AV} {Q':List (List AV)} (K:Nat) (h:Q[j]? =some R) (hQ:Q.set j (cq R f [x])=Q')
 |DN {Q:List (List AV)} {P:List (Option (List (List AV)))} (K e' s:Nat) (h:∃n,Q=List.replicate n [.sln e' s []]/\P=List.replicate n (some []))
 |sG {Q:List (Option (List (List AV)))} {j:Nat} {R:List (List AV)} {n:Nat} {Q':List (Option (List (List AV)))} (K K2:Nat) (h:Q[j]? =some (some R)) (hn:R.length=n) (hQ:Q.set j none=Q')
 |ud {Q:List (Option (List (List AV)))} {j:Nat} {R:List (List AV)} {n:Nat} {Q':List (Option (List (List AV)))} (K K2:Nat) (hn:R.length=n) (hQ:Q.set j (some R)=Q')
 |DU {Q:List (Option (List (List AV)))} {P:List (List AV)} {n:Nat} (x:Bool) (K e' s:Nat) (h:Q.map (zD x e' s)=P) (hn:Q.length=n)
 |nz {n:Int} (h:n≠0)
 |cat {a b:ByteArray} (h:a.size+b.size<=1000000)
 |mk {n1 n2:Int} {l m:Nat} {x:List AV} {Q':List (List AV)} (h1:n1=(l:Int)) (h2:n2=(m:Int)) (hl:l<=m) (hm:m<=1000000) (ms:List P1) (hQ:(List.replicate l x).map (apps ms)=Q')
 |sto {Q:List (List AV)} {j:Nat} {R:List AV} {f:Nat} {xs:List AV} {Q':List (List AV)} (h:Q[j]? =some R) (hQ:Q.set j (cq R f xs)=Q')
 |nxt {b:ByteArray} {pos:Nat} (h:pos<b.size)
 |fin {b:ByteArray} {pos:Nat} (h:¬pos<b.size)
 |lkp {es:List (AV×AV)} {k x z:AV} (ok:Bool) (h:∃f,iG k es=some f/\wA ok (some z) f=some x)
 |upd {es es':List (AV×AV)} {k x:AV} (h:∃f,iG k es=some f/\CY es k x f=es')
 |nrm (m:PM)
 |laid {x y:Bx} (h:x=y)
 |cut {rows R:List (List AV)} {lo hi:Int} {l u:Nat} (h1:lo=(l:Int)) (h2:hi=(u:Int)) (hlu:l<=u) (hum:u<=rows.length) (hR:(rows.drop l).take (u-l)=R)
 |lj {rows R:List (List AV)} {hi mx:Int} {u:Nat} (h2:hi=(u:Int)) (h3:mx=(u:Int)) (hum:u<=rows.length) (hR:rows.take u=R)
 |Ez {Q:List (List AV)} {lo0 n:Nat} {lo hi:Int} {l u:Nat} (h1:lo=(l:Int)) (h2:hi=(u:Int)) (hlu:l<=u) (hum:u<=n) (hn:lo0+n<=Q.length)
 |app {Q R Q':List (List AV)} {n n':Nat} (hn:n=Q.length) (hn6:Q.length<=1000000) (hR:R.length<=1000000) (hQ:Q++R=Q') (hl:Q'.length=n') (sr:Sr R)
 |aaD {Q P R Q':List (List AV)} {n n':Nat} (hP:Q.take n=P) (hn:n<=Q.length) (hn6:n<=1000000) (hR:R.length<=1000000) (hQ:P++R=Q') (hl:Q'.length=n') (sr:Sr R)
 |EG {Q R Q':List (List AV)} {n':Nat} (hn6:Q.length<=1000000) (hR:R.length<=1000000) (hne:R≠ []) (hQ:Q++R=Q') (hl:Q'.length=n') (sr:Sr R)
 |B6 {R:List (List AV)} (h:R= []) (sr:Sr R)
 |cpy {Q R Q':List (List AV)} {lo n m:Nat} (hn:lo+n<=Q.length) (hm:m=min R.length n) (hQ':Q'=Q.take lo++R.take m++Q.drop (lo+m)) (hne:Q≠ []) (sr:Sr R)
 |chr {b:ByteArray} {n:Int} {c:UInt8} (h:lv b.data.toList n=some c)
 |call {f:Nat} {bs bs':List (Nat×Bx)} {xs:List AV} {y:AV} (h:bl E f bs xs y bs') (ms:List PM) (ps rs:bw)
 |frz {Q:List (List AV)} {n:Nat} (K:Nat) (h:Q.length=n)
 |frf (K:Nat)
 |ren (K K':Nat)
 |shr {Q P:List (List AV)} {u:Nat} (K:Nat) (h:Q.take u=P)
 |born (ts:List Nat) (cs:bw) (K:Nat) (z:Bool) (e sz:Nat)
 |norm (ts:List (Nat×PM)) (bs:List (Nat×PB))
 |seq {x y:AV} (t:Nat) (h:x=y)
 |beq {x y:Bx} (K:Nat) (h:x=y)
theorem aO.weak {op:Op} {x:AV} {W:WK} (m:PM) (h:aO E B op s s1 x W):aO E B op s s1 (m.app x) W:=.mk fun {F g φ tm hh new} r h1 h2=>by
 obtain ⟨v,us,a,b,c⟩:=h.go r h1 h2;exact ⟨v,us,a,m.va b,c⟩
def PV (E:Env) (pks:List Nat) (s:LS) (op:Op) (d:Option Nat) (it:It E):Option Res:=
 match it with
 | @It.eqv _ x y _=>ai (om E pks s op d) fun r=>some (r.1,y,r.2.2.1,(r.2.1,x)::r.2.2.2)
 | @It.idx _ rows n R _=>QR E s rows n R op
 | @It.idb _ n k m _ _=>QS E s n k m op
 | @It.row _ Q j R _=>QO E s Q j R op
 | @It.hol _ Q j _ f Q' _ _=>QU E s Q j f Q' op
 | @It.hst _ Q j f _=>QT E s Q j f op
 | @It.nz _ n _=>Zp s n op
 | @It.cat _ a b _=>QZ s a b op
 | @It.mk _ n1 n2 l _ x Q' _ _ _ _ _ _=>Zr E pks s n1 n2 l x Q' op d
 | @It.sto _ Q j _ f xs Q' _ _=>QN E s Q j f xs Q' op
 | @It.nxt _ b pos _=>QP s b pos op
 | @It.fin _ b pos _=>QV s b pos op
 | @It.lkp _ es k x z ok _=>QQ E s es k x z ok op
 | @It.upd _ es es' k x _=>QM E s es es' k x op
 | @It.laid _ x y _=>ai d fun K=>sel (iy pks s K) (ai (vQ E s K op) fun p=>some (s.set K y,p.2,some (K,true),[(bxA p.1,bxA x)])) none
 | .nrm m=>ai (om E pks s op d) fun r=>some (r.1,m.app r.2.1,r.2.2.1,r.2.2.2)
 | @It.cut _ rows R lo hi _ _ _ _ _ _ _=>QW E s rows lo hi R op
 | @It.lj _ rows R hi mx _ _ _ _ _=>KJ E s rows hi mx R op
 | @It.EG _ Q R Q' n' _ _ _ _ _ sr=>KL E pks s Q R Q' n' sr op d
 | @It.B6 _ _ _ sr=>D8 E s sr op
 | @It.Ez _ Q lo0 n lo hi l u _ _ _ _ _=>KH E s Q lo0 n lo hi l u op
 | @It.app _ Q R Q' n n' _ _ _ _ _ sr=>Gn E pks s true Q Q R Q' n n' sr op d
 | @It.aaD _ Q P R Q' n n' _ _ _ _ _ _ sr=>Gn E pks s false Q P R Q' n n' sr op d
 | @It.cpy _ Q R Q' lo n m _ _ _ _ sr=>QX E s Q R Q' lo n m sr op
 | @It.chr _ b n c _=>QY E s b n c op
 |_=>none
theorem Io {pks:List Nat} {op:Op} {d:Option Nat} {it:It E} {r:Res} (hB:BOK pks B) (h:PV E pks s op d it=some r):eO E B op s r:=by
 cases it with
 | @eqv x y h0=>
  obtain ⟨r',h1,h2⟩:=ae (show ai (om E pks s op d) (fun r=>some (r.1,y,r.2.2.1,(r.2.1,x)::r.2.2.2))=some r from h)
  cases h2;intro ho;have key:=rJ hB h1 ho.2;have e1:r'.2.1=x:=ho.1;show aO E B op s r'.1 y r'.2.2.1;rw[<-h0,<-e1];exact key
 |idx h0=>exact Zt h0 h
 |idb h0 hk=>exact Zu h0 hk h
 |row h0=>exact Zo h0 h
 |hol h0 hQ=>exact Zw h0 hQ h
 |hst hu=>exact Zv hu h
 |nz h0=>exact aeV h0 h
 |cat h0=>exact ZB h0 h
 |mk h1 h2 hl hm ms hQ=>exact aeW hB h1 h2 hl hm ms hQ h
 |sto h0 hQ=>exact Zn h0 hQ h
 |nxt h0=>exact Zq h0 h
 |fin h0=>exact Zx h0 h
 |lkp ok h0=>exact Zs h0 h
 |upd h0=>exact Zm h0 h
 | @laid x y h0=>
  obtain ⟨K,hd,h⟩:=ae (show ai d (fun K=>sel (iy pks s K) (ai (vQ E s K op) fun p=>some (s.set K y,p.2,some (K,true),[(bxA p.1,bxA x)])) none)=some r from h)
  obtain ⟨h1,h⟩:=ar h;obtain ⟨p,h2,h⟩:=ae h;cases h;intro ho;obtain ⟨a,b⟩:=jH hB h1;have e1:p.1=x:=B1 ho.1;have key:=E9 a b h2;rw[e1,h0] at key;exact key
 |nrm m=>
  obtain ⟨r',h1,h2⟩:=ae (show ai (om E pks s op d) (fun r=>some (r.1,m.app r.2.1,r.2.2.1,r.2.2.2))=some r from h)
  cases h2;exact fun ho=>(rJ hB h1 ho).weak m
 |cut h1 h2 hlu hum hR=>exact Zy h1 h2 hlu hum hR h
 |lj h2 h3 hum hR=>exact Xs h2 h3 hum hR h
 |EG hn6 hR hne hQ hl sr=>exact Xt hB hn6 hR hne hQ hl h
 |B6 h0 sr=>exact Q1 h0 h
 |Ez h1 h2 hlu hum hn=>exact Xr h1 h2 hlu hum hn h
 |app hn hn6 hR hQ hl sr=>subst hn;exact KK hB (fun _=>rfl) List.take_length (Nat.le_refl _) hn6 hR hQ hl h
 |aaD hP hn hn6 hR hQ hl sr=>exact KK hB (fun e=>by cases e) hP hn hn6 hR hQ hl h
 |cpy hn hm hQ' hne sr=>exact Zz hn hm hQ' hne h
 |chr h0=>exact ZA h0 h
 |call|frz|frf|ren|shr|opn|clo|DN|sG|ud|DU|born|norm|seq|beq=>cases h
end
section
variable {F F':Hf} {g g':Gb} {B:Bs} {φ:Nat->List Nat} {s s' s1:LS} {tm:Tf} {h:Hs} {hp:Hf} {E:Env} {nt:Nat} {all l:List Oper}
theorem D4 {α β:Type} (f:Nat->α->β) (t:Nat):∀l:List (Nat×α),lk t (l.map fun p=>(p.1,f p.1 p.2))=(lk t l).map (f t)
 | []=>rfl
 |(k,x)::l=>by
  rw[List.map_cons,bh,bh,D4 f t l];split
  ·rename_i e;subst e;rfl
  ·rfl
theorem Rel.aaX (r:Rel B F g φ s tm h) {ft:Nat->AV->AV} {fb:Nat->Bx->Bx} (h0:∀t,ft t .undef= .undef) (h1:∀t v x,VA F g v x->VA F g v (ft t x)) (h2:∀k b fp,cD F g h.hp.get k b fp->cD F g h.hp.get k (fb k b) fp):
  Rel B F g φ ⟨s.ts.map fun p=>(p.1,ft p.1 p.2),s.bs.map fun p=>(p.1,fb p.1 p.2)⟩ tm h:=by
 have back:∀{k b},lk k (s.bs.map fun p=>(p.1,fb p.1 p.2))=some b->∃b0,lk k s.bs=some b0/\fb k b0=b:=fun {k b} hb=>by
  rw[D4] at hb;obtain ⟨b0,c1,c2⟩:=Option.map_eq_some_iff.1 hb;exact ⟨b0,c1,c2⟩
 refine {r with tm:=fun t y hy hn=> ?_,bx:=fun k b hb=> ?_,dj:=fun k k' b b' hb hb'=> ?_,nf:=fun k b hb=> ?_,g7:=fun k b hb=> ?_}
 ·have hy:lk t (s.ts.map fun p=>(p.1,ft p.1 p.2))=some y:=hy
  rw[D4] at hy;obtain ⟨x,hx,e⟩:=Option.map_eq_some_iff.1 hy;by_cases hu:x= .undef
  ·subst hu;rw[h0] at e;exact absurd e.symm hn
  ·obtain ⟨v,v1,v2⟩:=r.tm t x hx hu;subst e;exact ⟨v,v1,h1 t v x v2⟩
 ·obtain ⟨b0,c1,c2⟩:=back hb;subst c2;exact h2 k b0 _ (r.bx k b0 c1)
 ·obtain ⟨b0,c1,_⟩:=back hb;obtain ⟨b1,d1,_⟩:=back hb';exact r.dj k k' b0 b1 c1 d1
 ·obtain ⟨b0,c1,_⟩:=back hb;exact r.nf k b0 c1
 ·obtain ⟨b0,c1,_⟩:=back hb;exact r.g7 k b0 c1
def kY (K K' k:Nat):Nat:=sel (Nat.beq k K) K' k
theorem DH (K K' k:Nat):kY K K' k=if k=K then K' else k:=by
 unfold kY;rw[aA];by_cases h:k=K
 ·rw[if_pos h,if_pos ((beq_iff _ _).2 h)]
 ·rw[if_neg h,if_neg (fun e=>h ((beq_iff _ _).1 e))]
def LS.ren (s:LS) (K K':Nat):LS:=⟨s.ts.map fun p=>(p.1,kh (kY K K') p.2),s.bs.map fun p=>(kY K K' p.1,p.2.ren (kY K K'))⟩
theorem tr {K K' k:Nat} {b':Bx}:∀{l:List (Nat×Bx)},lk K' l=none->lk k (l.map fun p=>(kY K K' p.1,p.2.ren (kY K K')))=some b'->∃k0 b0,lk k0 l=some b0/\kY K K' k0=k/\k0≠K'/\b'=b0.ren (kY K K')
 | [],_,h=>by cases h
 |(j,x)::l,hn,h=>by
  rw[bh] at hn;rw[List.map_cons,bh] at h;split at hn
  ·cases hn
  ·rename_i hj;split at h
   ·rename_i e;cases h;exact ⟨j,x,by rw[bh,if_pos rfl],e.symm,fun c=>hj c.symm,rfl⟩
   ·rename_i e;obtain ⟨k0,b0,a1,a2,a3,a4⟩:=tr hn h;refine ⟨k0,b0,?_,a2,a3,a4⟩;rw[bh,if_neg (fun c=>e (by rw[<-a2,c])),a1]
theorem dh.ren {K K':Nat} (hk:s.free K') (hp:B.pk K=false) (hp':B.pk K'=false) (hn:lk K' s.bs=none):dh B s (s.ren K K'):=.mk fun {F g φ tm h} r=>by
 let g2:Gb:=⟨fun k=>if k=K' then g.ρ K else g.ρ k,fun k=>if k=K' then g.κ K else g.κ k,fun k=>if k=K' then g.β K else g.β k⟩
 let φ2:Nat->List Nat:=fun k=>if k=K' then φ K else φ k
 have one:∀k,k≠K'->g2.ρ (kY K K' k)=g.ρ k/\g2.κ (kY K K' k)=g.κ k/\g2.β (kY K K' k)=g.β k:=fun k hk'=>by
  rw[DH];by_cases e:k=K
  ·subst e;rw[if_pos rfl];exact ⟨if_pos rfl,if_pos rfl,if_pos rfl⟩
  ·rw[if_neg e];exact ⟨if_neg hk',if_neg hk',if_neg hk'⟩
 have gr:∀ks:List Nat,K'∉ks->kL g g2 (kY K K') ks:=fun ks hks k hm=>one k (fun e=>hks (e ▸ hm))
 have ph:∀k,k≠K'->φ2 (kY K K' k)=φ k:=fun k hk'=>by
  rw[DH];by_cases e:k=K
  ·subst e;rw[if_pos rfl];exact if_pos rfl
  ·rw[if_neg e];exact if_neg hk'
 refine ⟨F,g2,φ2,{r with tm:=fun t y hy hne=> ?_,bx:=fun k b hb=> ?_,dj:=fun k k' b b' hb hb' hne=> ?_,nf:=fun k b hb=> ?_,g7:=fun k b hb i hi=> ?_,pin:=fun k hk'=> ?_}⟩
 ·rw[show (s.ren K K').ts=s.ts.map fun p=>(p.1,kh (kY K K') p.2) from rfl,iu] at hy
  obtain ⟨x,hx,e⟩:=Option.map_eq_some_iff.1 hy;by_cases hu:x= .undef
  ·subst hu;exact absurd e.symm hne
  ·obtain ⟨v,v1,v2⟩:=r.tm t x hx hu;subst e;exact ⟨v,v1,v2.ren (gr _ (hk.1 t x hx))⟩
 ·obtain ⟨k0,b0,a1,a2,a3,a4⟩:=tr hn hb;subst a4;have:=(r.bx k0 b0 a1).ren (g':=g2) (f:=kY K K') (gr [k0] (by simpa using fun e=>a3 e.symm)) (gr _ (hk.2 k0 b0 a3 a1))
  rw[<-ph k0 a3,a2] at this;exact this
 ·obtain ⟨k0,b0,a1,a2,a3,a4⟩:=tr hn hb;obtain ⟨k1,b1,c1,c2,c3,c4⟩:=tr hn hb';rw[<-a2,<-c2,ph k0 a3,ph k1 c3];exact r.dj k0 k1 b0 b1 a1 c1 (fun e=>hne (by rw[<-a2,<-c2,e]))
 ·obtain ⟨k0,b0,a1,a2,a3,a4⟩:=tr hn hb;rw[<-a2,ph k0 a3];exact r.nf k0 b0 a1
 ·obtain ⟨k0,b0,a1,a2,a3,a4⟩:=tr hn hb;rw[<-a2,ph k0 a3] at hi;rcases r.g7 k0 b0 a1 i hi with c|c
  ·left;have hkK:k0≠K:=fun e=>by have:=c.1;rw[e,hp] at this;cases this
   rw[<-a2,DH,if_neg hkK];exact c
  ·exact .inr c
 ·have hne:k≠K':=fun e=>by rw[e,hp'] at hk';cases hk'
  intro j hj;have ej:j=k:=by simpa using hj
  subst ej;obtain ⟨a1,a2,a3⟩:=r.pin j hk' j (by simp)
  exact ⟨(if_neg hne).trans a1,(if_neg hne).trans a2,(if_neg hne).trans a3⟩
def uU (K sz:Nat) (x:AV):AV:=match x with| .aT=>.ms K sz 0 0|x=>x
def R6 (cs:bw) (k K sz:Nat):Nat->List AV->List AV
 |_,[]=> []
 |i,x::l=>sel (cs.any fun q=>Nat.beq q.1 k&&Nat.beq q.2 i) (uU K sz x) x::R6 cs k K sz (i+1) l
def GM (cs:bw) (K sz k:Nat) (b:Bx):Bx:=match b with| .flat e l=>.flat e (R6 cs k K sz 0 l)| .hole e s Q i x=>.hole e s Q i (sel (cs.any fun q=>Nat.beq q.1 k) (uU K sz x) x)| .own e e' s Q o=>.own e e' s Q (D1 (fun x=>sel (cs.any fun q=>Nat.beq q.1 k) (uU K sz x) x) o)|b=>b
def LS.born (s:LS) (ts:List Nat) (cs:bw) (K:Nat) (z:Bool) (e sz:Nat):LS:=
 ⟨s.ts.map fun p=>(p.1,sel (ep p.1 ts) (uU K sz p.2) p.2),(s.set K (.rows z e sz [])).bs.map fun p=>(p.1,GM cs K sz p.1 p.2)⟩
theorem uT {K sz:Nat} {v:SV} {x:AV} (hb:g.β K=false) (h:VA F g v x):VA F g v (uU K sz x):=by
 unfold uU;split
 ·cases h;exact .msN sz hb
 ·exact h
theorem LV {cs:bw} {k K sz:Nat} (hb:g.β K=false):∀{xs:List AV} {vs:List SV} {i:Nat},VAs F g vs xs->VAs F g vs (R6 cs k K sz i xs)
 | [],_,_,h=>h
 |x::l,_,i,.cons h t=>by
  refine .cons ?_ (LV hb t);rw[aA];split
  ·exact uT hb h
  ·exact h
theorem aay {cs:bw} {K sz k:Nat} {hp:Hf} {b:Bx} {fp:List Nat} (hb:g.β K=false) (q:cD F g hp k b fp):cD F g hp k (GM cs K sz k b) fp:=by
 unfold GM;split
 ·cases q with|flat hh q=>exact .flat hh (LV hb q)
 ·cases q with|hole hb0 hh hu hc q hi hv hx=>
  refine .hole hb0 hh hu hc q hi hv ?_;rw[aA];split
  ·exact uT hb hx
  ·exact hx
 ·cases q with
  |jN hb=>exact .jN hb
  |own hb0 hh hc q nd ho=>
   refine .own hb0 hh hc q nd fun i x e=> ?_
   obtain ⟨y,e1,rfl⟩:=ot e;subst e1;obtain ⟨a,v,b,c⟩:=ho i y rfl;refine ⟨a,v,b,?_⟩;rw[aA];split
   ·exact uT hb c
   ·exact c
 ·exact q
theorem dh.born {ts:List Nat} {cs:bw} {K:Nat} {z:Bool} {e sz:Nat} (hk:s.free K) (hp:B.pk K=false):dh B s (s.born ts cs K z e sz):=.mk fun {F g φ tm h} r=>by
 let g2:Gb:=⟨g.ρ,g.κ,fun k=>if k=K then false else g.β k⟩
 have hb:g2.β K=false:=if_pos rfl;have r2:=r.chg (K:=K) (b':=.rows z e sz []) (fo:= []) (fp:= []) (g':=g2) (h':=h) (fun i hi=>by cases hi) (fun i hi=>by cases hi) (fun _ _ _=>rfl) (Nat.le_refl _) r.bd (fun x hx=>.inl hx) (.cI hb)
  (.inr ⟨hk,hp,fun k hne j hj=>by
   have:j=k:=by simpa using hj
   subst this;exact ⟨rfl,rfl,if_neg hne⟩⟩)
 refine ⟨F,g2,_,r2.aaX (ft:=fun t x=>sel (ep t ts) (uU K sz x) x) (fb:=fun k b=>GM cs K sz k b) (fun t=> ?_) (fun t v x hv=> ?_) fun k b fp q=>aay hb q⟩
 ·rw[aA];split<;>rfl
 ·rw[aA];split
  ·exact uT hb hv
  ·exact hv
theorem WB.cut {z:Bool} {e:TypeId} {sz u:Nat} {Q:List (List AV)}:WB (.rows z e sz Q) (.rows false e sz (Q.take u)):=fun F g h K fp q=>by
 cases q with
 |cI hb=>rw[List.take_nil];exact .cI hb
 | @rows _ _ _ _ svs hb hh hz hu hc q=>
  have hle:(Q.take u).length<=Q.length:=by rw[List.length_take];exact Nat.min_le_right _ _
  refine .rows hb hh (fun e=>by cases e) (fun r hr=>hu r (List.mem_of_mem_take hr)) ?_ ?_
  ·cases hκ:g.κ K with
   |k m=>rw[hκ] at hc;exact ⟨Nat.le_trans hle hc.1,hc.2⟩
   |u e'=>rw[hκ] at hc;exact ⟨hc.1,Nat.le_trans (Nat.mul_le_mul_right _ hle) hc.2⟩
  ·have:=q.take ((Q.take u).length*sz);rw[List.take_take,Nat.min_eq_left (Nat.mul_le_mul_right _ hle),<-je hu] at this;have e1:Q.take (Q.take u).length=Q.take u:=by
    rw[List.length_take];by_cases hc:u<=Q.length
    ·rw[Nat.min_eq_left hc]
    ·rw[Nat.min_eq_right (by omega),List.take_length,List.take_of_length_le (by omega)]
   rw[e1] at this;exact this
theorem yV {vs:List SV} {i:Nat} {v:SV} (h:vs[i]? =some v):bH vs i [v]=vs:=by
 obtain ⟨hlt,he⟩:=List.getElem?_eq_some_iff.1 h;show vs.take i++ [v]++vs.drop (i+1)=vs;rw[<-he,List.append_assoc];show vs.take i++(vs[i]::vs.drop (i+1))=vs;rw[<-List.drop_eq_getElem_cons hlt,List.take_append_drop]
theorem WB.opn {z:Bool} {e:TypeId} {j:Nat} {Q:List (List AV)} {x:AV} (hj:Q[j]? =some [x]) (hk:(bR x).isEmpty=true):WB (.rows z e 1 Q) (.hole e 1 (Q.set j [.undef]) (j*1+0) x):=fun F g h K fp q=>by
 have hlt:j<Q.length:=(List.getElem?_eq_some_iff.1 hj).1;cases q with
 |cI hb=>cases hlt
 | @rows _ _ _ _ svs hb hh hz hu hc q=>
  have hfl:Q.flatten[j*1+0]? =some x:=Ek hu hj rfl;have hlen:=eN hc;obtain ⟨v,v1,v2⟩:=q.get hfl;rw[List.getElem?_take,if_pos (by omega)] at v1
  refine .hole (v:=v) hb hh (fun r hr=> ?_) (by rw[List.length_set];exact hc) ?_ (by rw[List.length_set];omega) v1 (v2.fY hk)
  ·rcases List.mem_or_eq_of_mem_set hr with hr|rfl
   ·exact hu r hr
   ·rfl
  ·have e0:Q.set j [.undef]=Q.set j (cq [x] 0 [.undef]):=rfl;rw[List.length_set,e0,nZ hu hj (by simp)]
   have hv':(svs.take (Q.length*1))[j*1+0]? =some v:=by rw[List.getElem?_take,if_pos (by omega)];exact v1
   have:=jF q (VAs.one (F:=F) (g:=.no) (.undef v)) (j*1+0);rwa[yV hv'] at this
theorem WB.clo {e:TypeId} {sz j f:Nat} {Q:List (List AV)} {R:List AV} {x:AV} (hj:Q[j]? =some R) (hf:f+1<=sz) (hk:(bR x).isEmpty=true):WB (.hole e sz Q (j*sz+f) x) (.rows false e sz (Q.set j (cq R f [x]))):=fun F g h K fp q=>by
 cases q with
 | @hole _ _ _ _ _ svs v hb hh hu hc q hi hv hx=>
  have hlt:j<Q.length:=(List.getElem?_eq_some_iff.1 hj).1;have hR:R.length=sz:=hu R (List.mem_of_getElem? hj);refine .rows hb hh (fun e=>by cases e) (fun r hr=> ?_) (by rw[List.length_set];exact hc) ?_
  ·rcases List.mem_or_eq_of_mem_set hr with hr|rfl
   ·exact hu r hr
   ·rw[ng (by simp;omega)];exact hR
  ·rw[List.length_set,nZ hu hj (by simpa using hf)]
   have hv':(svs.take (Q.length*sz))[j*sz+f]? =some v:=by rw[List.getElem?_take,if_pos hi];exact hv
   have:=jF q (VAs.one (hx.fY (g':=.no) hk)) (j*sz+f);rwa[yV hv'] at this
theorem Rel.split (r:Rel B F g φ s tm h) {K K2:Nat} {b b1 b2:Bx} {f1 f2:List Nat} (hb:lk K s.bs=some b) (hk:s.free K2) (hp:B.pk K2=false) (hpK:B.pk K=false) (hn:lk K2 s.bs=none) (hg:∀k,k≠K2->gq g g' [k])
  (h1:cD F g' h.hp.get K b1 f1) (h2:cD F g' h.hp.get K2 b2 f2) (s1:∀i∈f1,i∈φ K) (s2:∀i∈f2,i∈φ K) (d:∀i∈f1,i∉f2):Rel B F g' (fun k=>if k=K2 then f2 else if k=K then f1 else φ k) ⟨s.ts,(K2,b2)::(K,b1)::bG K s.bs⟩ tm h:=by
 have hne:K≠K2:=fun e=>by rw[e,hn] at hb;cases hb
 have lks:∀{k c},lk k ((K2,b2)::(K,b1)::bG K s.bs)=some c->(k=K2/\c=b2)\/(k≠K2/\k=K/\c=b1)\/(k≠K2/\k≠K/\lk k s.bs=some c):=fun {k c} hc=>by
  rw[bh,bh,dz] at hc;split at hc
  ·cases hc;exact .inl ⟨by assumption,rfl⟩
  ·split at hc
   ·cases hc;exact .inr (.inl ⟨by assumption,by assumption,rfl⟩)
   ·exact .inr (.inr ⟨by assumption,by assumption,hc⟩)
 have gs:∀ks:List Nat,K2∉ks->gq g g' ks:=fun ks hks k hk=>hg k (fun e=>hks (e ▸ hk)) k (by simp)
 have sub:∀{k c},lk k ((K2,b2)::(K,b1)::bG K s.bs)=some c->∀i∈(if k=K2 then f2 else if k=K then f1 else φ k),∃k0 c0,lk k0 s.bs=some c0/\i∈φ k0/\(k0=k\/k0=K):=fun {k c} hc i hi=>by
  rcases lks hc with ⟨e,_⟩|⟨n1,e,_⟩|⟨n1,n2,hc⟩
  ·rw[if_pos e] at hi;exact ⟨K,b,hb,s2 i hi,.inr rfl⟩
  ·rw[if_neg n1,if_pos e] at hi;exact ⟨K,b,hb,s1 i hi,.inr rfl⟩
  ·rw[if_neg n1,if_neg n2] at hi;exact ⟨k,c,hc,hi,.inl rfl⟩
 refine ⟨fun t x hx hnu=> ?_,fun k c hc=> ?_,fun k k' c c' hc hc' hkk i hi=> ?_,fun k c hc i hi=> ?_,r.sub,r.bd,r.nx,r.old,r.f0,r.fn,fun k c hc i hi=> ?_,r.lg,fun k hk'=> ?_⟩
 ·obtain ⟨v,v1,v2⟩:=r.tm t x hx hnu;exact ⟨v,v1,v2.gb (gs _ (hk.1 t x hx))⟩
 ·rcases lks hc with ⟨e,rfl⟩|⟨n1,e,rfl⟩|⟨n1,n2,hc⟩
  ·rw[if_pos e,e];exact h2
  ·rw[if_neg n1,if_pos e,e];exact h1
  ·rw[if_neg n1,if_neg n2];exact (r.bx k c hc).gb (gs _ (by simpa using Ne.symm n1)) (gs _ (hk.2 k c n1 hc))
 ·intro hi';rcases lks hc with ⟨e,_⟩|⟨n1,e,_⟩|⟨n1,n2,hc0⟩<;>rcases lks hc' with ⟨e',_⟩|⟨n1',e',_⟩|⟨n1',n2',Eh⟩
  ·exact hkk (e.trans e'.symm)
  ·rw[if_pos e] at hi;rw[if_neg n1',if_pos e'] at hi';exact d i hi' hi
  ·rw[if_pos e] at hi;rw[if_neg n1',if_neg n2'] at hi';exact r.dj k' K c' b Eh hb n2' i hi' (s2 i hi)
  ·rw[if_neg n1,if_pos e] at hi;rw[if_pos e'] at hi';exact d i hi hi'
  ·exact hkk (e.trans e'.symm)
  ·rw[if_neg n1,if_pos e] at hi;rw[if_neg n1',if_neg n2'] at hi';exact r.dj k' K c' b Eh hb n2' i hi' (s1 i hi)
  ·rw[if_neg n1,if_neg n2] at hi;rw[if_pos e'] at hi';exact r.dj k K c b hc0 hb n2 i hi (s2 i hi')
  ·rw[if_neg n1,if_neg n2] at hi;rw[if_neg n1',if_pos e'] at hi';exact r.dj k K c b hc0 hb n2 i hi (s1 i hi')
  ·rw[if_neg n1,if_neg n2] at hi;rw[if_neg n1',if_neg n2'] at hi';exact r.dj k k' c c' hc0 Eh hkk i hi hi'
 ·obtain ⟨k0,c0,a1,a2,_⟩:=sub hc i hi;exact r.nf k0 c0 a1 i a2
 ·obtain ⟨k0,c0,a1,a2,a3⟩:=sub hc i hi;rcases r.g7 k0 c0 a1 i a2 with c|c
  ·rcases a3 with e|e
   ·subst e;exact .inl c
   ·have:=c.1;rw[e,hpK] at this;cases this
  ·exact .inr c
 ·have qM:k≠K2:=fun e=>by rw[e,hp] at hk';cases hk'
  intro j hj;have ej:j=k:=by simpa using hj
  subst ej;obtain ⟨a1,a2,a3⟩:=r.pin j hk' j (by simp)
  obtain ⟨c1,c2,c3⟩:=hg j qM j (by simp)
  exact ⟨c1.trans a1,c2.trans a2,c3.trans a3⟩
theorem Rel.join (r:Rel B F g φ s tm h) {K K2:Nat} {b b1 b2:Bx} {f1:List Nat} (hb:lk K s.bs=some b) (hb2:lk K2 s.bs=some b2) (hp:B.pk K2=false) (hne:K≠K2) (h1:cD F g h.hp.get K b1 f1) (s1:∀i∈f1,i∈φ K\/i∈φ K2):Rel B F g (fun k=>if k=K then f1 else φ k) ⟨s.ts,(K,b1)::bG K (bG K2 s.bs)⟩ tm h:=by
 have lks:∀{k c},lk k ((K,b1)::bG K (bG K2 s.bs))=some c->(k=K/\c=b1)\/(k≠K/\k≠K2/\lk k s.bs=some c):=fun {k c} hc=>by
  rw[bh,dz,dz] at hc;split at hc
  ·cases hc;exact .inl ⟨by assumption,rfl⟩
  ·split at hc
   ·cases hc
   ·exact .inr ⟨by assumption,by assumption,hc⟩
 have dis:∀{k c},k≠K->k≠K2->lk k s.bs=some c->∀i∈φ k,i∉f1:=fun {k c} n1 n2 hc i hi hf=>by
  rcases s1 i hf with h|h
  ·exact r.dj k K c b hc hb n1 i hi h
  ·exact r.dj k K2 c b2 hc hb2 n2 i hi h
 refine {r with bx:=fun k c hc=> ?_,dj:=fun k k' c c' hc hc' hkk i hi=> ?_,nf:=fun k c hc i hi=> ?_,g7:=fun k c hc i hi=> ?_}
 ·rcases lks hc with ⟨e,rfl⟩|⟨n1,n2,hc⟩
  ·rw[if_pos e,e];exact h1
  ·rw[if_neg n1];exact r.bx k c hc
 ·intro hi';rcases lks hc with ⟨e,_⟩|⟨n1,n2,hc0⟩<;>rcases lks hc' with ⟨e',_⟩|⟨n1',n2',Eh⟩
  ·exact hkk (e.trans e'.symm)
  ·rw[if_pos e] at hi;rw[if_neg n1'] at hi';exact dis n1' n2' Eh i hi' hi
  ·rw[if_neg n1] at hi;rw[if_pos e'] at hi';exact dis n1 n2 hc0 i hi hi'
  ·rw[if_neg n1] at hi;rw[if_neg n1'] at hi';exact r.dj k k' c c' hc0 Eh hkk i hi hi'
 ·rcases lks hc with ⟨e,rfl⟩|⟨n1,n2,hc⟩
  ·rw[if_pos e] at hi;exact (s1 i hi).elim (r.nf K b hb i) (r.nf K2 b2 hb2 i)
  ·rw[if_neg n1] at hi;exact r.nf k c hc i hi
 ·rcases lks hc with ⟨e,rfl⟩|⟨n1,n2,hc⟩
  ·rw[if_pos e] at hi;rcases s1 i hi with h|h
   ·rw[e];exact r.g7 K b hb i h
   ·rcases r.g7 K2 b2 hb2 i h with c|c
    ·have:=c.1;rw[hp] at this;cases this
    ·exact .inr c
  ·rw[if_neg n1] at hi;exact r.g7 k c hc i hi
theorem Fa {hp:Hf} {e:TypeId} {sz:Nat}:∀(n:Nat) {vs:List SV},VAs F .no vs (List.replicate n (AV.sln e sz []))->gT F hp e sz vs (List.replicate n (some [])) (List.replicate n [])
 |0,_,.nil=>.nil
 |n+1,_,.cons h t=>by
  refine .cons ?_ (Fa n t);cases h with
  |ni=>exact .nil
  |sln hF hc hn hz=>exact absurd rfl hz
theorem ze {x:AV}:∀n:Nat,(List.replicate n [x]).flatten=List.replicate n x
 |0=>rfl
 |n+1=>by rw[List.replicate_succ,List.flatten_cons,ze n,List.replicate_succ];rfl
theorem WB.aim {z:Bool} {e e':TypeId} {sz n:Nat}:WB (.rows z e 1 (List.replicate n [.sln e' sz []])) (.own e e' sz (List.replicate n (some [])) none):=fun F g h K fp q=>by
 generalize hQ:List.replicate n [AV.sln e' sz []]=Q at q;cases q with
 |cI hb=>
  have:n=0:=by have:=congrArg List.length hQ;rwa[List.length_replicate] at this
  subst this;exact .jN hb
 |rows hb hh hz hu hc q=>
  subst hQ;rw[List.length_replicate] at hc q;rw[ze,Nat.mul_one] at q;have key:=cD.own (F:=F) (g:=g) (h:=h) (K:=K) (Q:=List.replicate n (some [])) (o:=none) hb hh (by rw[List.length_replicate];exact hc) (by rw[List.length_replicate];exact Fa n q) (by simp) (fun i x e=>by cases e)
  rw[show g.ρ K::(List.replicate n ([]:List Nat)).flatten= [g.ρ K] by simp] at key
  exact key
theorem gT.at {hp:Hf} {e:TypeId} {sz:Nat}:∀{vs:List SV} {Q:List (Option (List (List AV)))} {fs:List (List Nat)} {j:Nat} {R:Option (List (List AV))},gT F hp e sz vs Q fs->Q[j]? =some R->fs.flatten.Nodup->∃v f,vs[j]? =some v/\sV F hp e sz v R f/\(∀i∈f,i∈fs.flatten)/\gT F hp e sz vs (Q.set j none) (fs.set j [])/\(∀i∈(fs.set j []).flatten,i∈fs.flatten/\i∉f)/\(fs.set j []).flatten.Nodup/\f.Nodup
 |_,_,_,j,R,.nil,h,_=>by cases h
 |_,_,_,0,R,@gT.cons _ _ _ _ v q f vs Qs fs hq t,h,nd=>by
  simp only[List.getElem?_cons_zero,Option.some.injEq] at h;subst h;rw[List.flatten_cons] at nd;obtain ⟨n1,n2,n3⟩:=List.nodup_append.1 nd;refine ⟨v,f,rfl,hq,fun i hi=>by rw[List.flatten_cons];exact List.mem_append_left _ hi,.cons (.any v) t,fun i hi=> ?_,?_,n1⟩
  ·have hi:i∈fs.flatten:=by simpa using hi
   exact ⟨by rw[List.flatten_cons];exact List.mem_append_right _ hi,fun hf=>n3 i hf i hi rfl⟩
  ·simpa using n2
 |_,_,_,j+1,R,@gT.cons _ _ _ _ v0 q0 f0 vs Qs fs hq t,h,nd=>by
  rw[List.flatten_cons] at nd;obtain ⟨n1,n2,n3⟩:=List.nodup_append.1 nd;obtain ⟨v,f,a1,a2,a3,a4,a5,a6,a7⟩:=t.at (by simpa using h) n2
  refine ⟨v,f,by simpa using a1,a2,fun i hi=>by rw[List.flatten_cons];exact List.mem_append_right _ (a3 i hi),.cons hq a4,fun i hi=> ?_,?_,a7⟩
  ·rw[List.set_cons_succ,List.flatten_cons] at hi;rcases List.mem_append.1 hi with hi|hi
   ·exact ⟨by rw[List.flatten_cons];exact List.mem_append_left _ hi,fun hf=>n3 i hi i (a3 i hf) rfl⟩
   ·exact ⟨by rw[List.flatten_cons];exact List.mem_append_right _ (a5 i hi).1,(a5 i hi).2⟩
  ·rw[List.set_cons_succ,List.flatten_cons];exact List.nodup_append.2 ⟨n1,a6,fun i hi i' hi' e=>n3 i hi i' (a5 i' hi').1 e⟩
theorem gT.put {hp:Hf} {e:TypeId} {sz:Nat}:∀{vs:List SV} {Q:List (Option (List (List AV)))} {fs:List (List Nat)} {j:Nat} {v:SV} {R:Option (List (List AV))} {f:List Nat},gT F hp e sz vs Q fs->Q[j]? =some none->vs[j]? =some v->sV F hp e sz v R f->fs.flatten.Nodup->f.Nodup->(∀i∈f,i∉fs.flatten)->∃fs',gT F hp e sz vs (Q.set j R) fs'/\(∀i∈fs'.flatten,i∈fs.flatten\/i∈f)/\fs'.flatten.Nodup
 |_,_,_,j,_,_,_,.nil,h,_,_,_,_,_=>by cases h
 |_,_,_,0,v,R,f,@gT.cons _ _ _ _ v0 q0 f0 vs Qs fs hq t,h,hv,hc,nd,nf,hd=>by
  simp only[List.getElem?_cons_zero,Option.some.injEq] at h hv;subst h;subst hv;cases hq;have hd:∀i∈f,i∉fs.flatten:=fun i hi=>by simpa using hd i hi
  refine ⟨f::fs,.cons hc t,fun i hi=> ?_,?_⟩
  ·rw[List.flatten_cons] at hi;rcases List.mem_append.1 hi with hi|hi
   ·exact .inr hi
   ·exact .inl (by simpa using hi)
  ·rw[List.flatten_cons];exact List.nodup_append.2 ⟨nf,by simpa using nd,fun i hi i' hi' e=>hd i hi (e ▸ hi')⟩
 |_,_,_,j+1,v,R,f,@gT.cons _ _ _ _ v0 q0 f0 vs Qs fs hq t,h,hv,hc,nd,nf,hd=>by
  rw[List.flatten_cons] at nd;obtain ⟨n1,n2,n3⟩:=List.nodup_append.1 nd;obtain ⟨fs',a1,a2,a3⟩:=t.put (by simpa using h) (by simpa using hv) hc n2 nf (fun i hi=>fun hf=>hd i hi (by rw[List.flatten_cons];exact List.mem_append_right _ hf))
  refine ⟨f0::fs',.cons hq a1,fun i hi=> ?_,?_⟩
  ·rw[List.flatten_cons] at hi ⊢;rcases List.mem_append.1 hi with hi|hi
   ·exact .inl (List.mem_append_left _ hi)
   ·exact (a2 i hi).imp (List.mem_append_right _) fun x=>x
  ·rw[List.flatten_cons];refine List.nodup_append.2 ⟨n1,a3,fun i hi i' hi' e=> ?_⟩
   subst e;rcases a2 i hi' with h|h
   ·exact n3 i hi i h rfl
   ·exact hd i h (by rw[List.flatten_cons];exact List.mem_append_left _ hi)
theorem aga {K sz n:Nat} {c:Cp} (h1:g.β K=true) (h2:g.κ K=c):VA F g (.sl (g.ρ K) 0 n c) (.ms K sz 0 n):=aaV h1 h2
theorem dh.sG {K K2 j:Nat} {e e':TypeId} {sz:Nat} {Q:List (Option (List (List AV)))} {R:List (List AV)} (hb:lk K s.bs=some (.own e e' sz Q none)) (hj:Q[j]? =some (some R)) (hk:s.free K2) (hp:B.pk K2=false) (hpK:B.pk K=false) (hn:lk K2 s.bs=none):
  dh B s ⟨s.ts,(K2,.rows false e' sz R)::(K,.own e e' sz (Q.set j none) (some (j*1+0,.ms K2 sz 0 R.length)))::bG K s.bs⟩:=.mk fun {F g φ tm h} r=>by
 have hne:K≠K2:=fun e=>by rw[e,hn] at hb;cases hb
 have q:=r.bx K _ hb;generalize hfp:φ K=fp at q;have hjl:j<Q.length:=(List.getElem?_eq_some_iff.1 hj).1;cases q with
 |jN=>cases hj
 | @own _ _ _ _ _ svs fs hb0 hh hc q nd ho=>
  obtain ⟨nd1,nd2⟩:=List.nodup_cons.1 nd;obtain ⟨v,f,a1,a2,a3,a4,a5,a6,a7⟩:=q.at hj nd2;rw[List.getElem?_take,if_pos hjl] at a1;let id:=f.headD 0;let c:Cp:=Af v;let g2:Gb:=⟨fun k=>if k=K2 then id else g.ρ k,fun k=>if k=K2 then c else g.κ k,fun k=>if k=K2 then !f.isEmpty else g.β k⟩
  have g2o:∀k,k≠K2->gq g g2 [k]:=fun k hk j hj=>by
   have:j≠K2:=by rw[show j=k by simpa using hj];exact hk
   exact ⟨if_neg this,if_neg this,if_neg this⟩
  obtain ⟨k1,k2,k3⟩:=g2o K hne K (by simp)
  have e2:g2.β K2= !f.isEmpty:=if_pos rfl;have e3:g2.ρ K2=id:=if_pos rfl;have e4:g2.κ K2=c:=if_pos rfl;have hx:cD F g2 h.hp.get K2 (.rows false e' sz R) f/\VA F g2 v (.ms K2 sz 0 R.length):=by
   cases a2 with
   |nil=>exact ⟨.cI e2,.msN sz e2⟩
   | @sl i0 c0 svs _ hh hu hc q=>
    have e3:g2.ρ K2=i0:=e3;have e4:g2.κ K2=c0:=e4;have key:=cD.rows (F:=F) (g:=g2) (h:=h.hp.get) (K:=K2) (z:=false) e2 (by rw[e3];exact hh) (fun e=>by cases e) hu (by rw[e4];exact hc) q
    have cr:=aga (F:=F) (g:=g2) (K:=K2) (sz:=sz) (n:=R.length) e2 e4;rw[e3] at key cr;exact ⟨key,cr⟩
  refine ⟨F,g2,_,r.split (b1:=.own e e' sz (Q.set j none) (some (j*1+0,.ms K2 sz 0 R.length))) (b2:=.rows false e' sz R) (f1:=g.ρ K::(fs.set j []).flatten) (f2:=f) hb hk hp hpK hn g2o ?_ hx.1 (fun i hi=> ?_) (fun i hi=> ?_) fun i hi=> ?_⟩
  ·rw[<-k1];refine .own (k3.trans hb0) (by rw[k1];exact hh) (by rw[List.length_set,k2];exact hc) (by rw[List.length_set];exact a4) ?_ fun i x e=> ?_
   ·rw[k1];exact List.nodup_cons.2 ⟨fun hi=>nd1 (a5 _ hi).1,a6⟩
   ·cases e;exact ⟨by rw[Nat.mul_one,Nat.add_zero,List.getElem?_set_self hjl],v,by rw[Nat.mul_one,Nat.add_zero];exact a1,hx.2⟩
  ·rw[hfp];rcases List.mem_cons.1 hi with e|hi
   ·rw[e];exact List.mem_cons_self
   ·exact List.mem_cons_of_mem _ (a5 i hi).1
  ·rw[hfp];exact List.mem_cons_of_mem _ (a3 i hi)
  ·rcases List.mem_cons.1 hi with e|hi
   ·rw[e];exact fun hf=>nd1 (a3 _ hf)
   ·exact (a5 i hi).2
theorem aax {hp:Hf} {K:Nat} {z:Bool} {e:TypeId} {sz:Nat} {R:List (List AV)} {f:List Nat} (q:cD F g hp K (.rows z e sz R) f):f.Nodup:=by
 cases q<;>simp
theorem dh.ud {K K2 j:Nat} {z:Bool} {e e':TypeId} {sz:Nat} {Q:List (Option (List (List AV)))} {R:List (List AV)} (hb:lk K s.bs=some (.own e e' sz Q (some (j*1+0,.ms K2 sz 0 R.length)))) (hb2:lk K2 s.bs=some (.rows z e' sz R)) (hp:B.pk K2=false) (hne:K≠K2):
  dh B s ⟨(s.df K2).ts,(K,.own e e' sz (Q.set j (some R)) none)::bG K (bG K2 (s.df K2).bs)⟩:=.mk fun {F g φ tm h} r=>by
 have q:=r.bx K _ hb;have q2:=r.bx K2 _ hb2;have hdj:=r.dj K K2 _ _ hb hb2 hne;have r':=zY r K2;generalize hfp:φ K=fp at q;cases q with
 | @own _ _ _ _ _ svs fs hb0 hh hc q nd ho=>
  obtain ⟨nd1,nd2⟩:=List.nodup_cons.1 nd;obtain ⟨hQ,v,hv,hx⟩:=ho _ _ rfl;rw[Nat.mul_one,Nat.add_zero] at hQ hv;have hjl:j<Q.length:=(List.getElem?_eq_some_iff.1 hQ).1;have mP:sV F h.hp.get e' sz v (some R) (φ K2):=by
   generalize φ K2=f2 at q2;cases q2 with
   |cI hb1=>cases hx with|msN=>exact .nil|ms _ _ _ hb3=>rw[hb1] at hb3;cases hb3|msE _ _ hl=>cases hl
   |rows hb1 hh1 hz hu hc1 q1=>
    generalize hm:R.length=m at hx;cases hx with
    |msN _ hb3=>rw[hb1] at hb3;cases hb3
    |msE _ _ hl=>cases hl
    |ms _ _ _ hb3=>
     subst hm;rw[Nat.zero_mul];refine .sl hh1 hu ?_ q1;cases hκ:g.κ K2<;>rw[hκ] at hc1<;>exact hc1
  have hd:∀i∈φ K2,i∉g.ρ K::fs.flatten:=fun i hi hf=>hdj i (by rw[hfp];exact hf) hi
  obtain ⟨fs',a1,a2,a3⟩:=q.put hQ (by rw[List.getElem?_take,if_pos hjl];exact hv) mP nd2 (aax q2) fun i hi hf=>hd i hi (List.mem_cons_of_mem _ hf)
  have lf:∀{k b},lk k s.bs=some b->lk k (s.df K2).bs=some (b.df K2):=fun {k b} hb=>by
   rw[show (s.df K2).bs=s.bs.map fun p=>(p.1,p.2.df K2) from rfl,iu,hb];rfl
  refine ⟨F,g,_,r'.join (b1:=.own e e' sz (Q.set j (some R)) none) (f1:=g.ρ K::fs'.flatten) (lf hb) (lf hb2) hp hne ?_ fun i hi=> ?_⟩
  ·refine .own hb0 hh (by rw[List.length_set];exact hc) (by rw[List.length_set];exact a1) (List.nodup_cons.2 ⟨fun hi=> ?_,a3⟩) fun i x e=>by cases e
   rcases a2 _ hi with h|h
   ·exact nd1 h
   ·exact hd _ h List.mem_cons_self
  ·rw[hfp];rcases List.mem_cons.1 hi with e|hi
   ·rw[e];exact .inl List.mem_cons_self
   ·rcases a2 i hi with h|h
    ·exact .inl (List.mem_cons_of_mem _ h)
    ·exact .inr h
def aaR {α:Type} (l:List (Nat×α)):List (Nat×α):=match l with| []=> []|p::l=>p::bG p.1 l
theorem Kz {α:Type} (k:Nat) (l:List (Nat×α)):lk k (aaR l)=lk k l:=by
 cases l with
 |nil=>rfl
 |cons p l=>
  show lk k ((p.1,p.2)::bG p.1 l)=lk k ((p.1,p.2)::l);rw[bh,bh,dz];split
  ·rfl
  ·rfl
def Qu {α:Type}:List (Nat×α)->List (Nat×α)
 | []=> []
 |p::l=>p::bG p.1 (Qu l)
theorem D3 {α:Type} (k:Nat):∀l:List (Nat×α),lk k (Qu l)=lk k l
 | []=>rfl
 |p::l=>by
  show lk k ((p.1,p.2)::bG p.1 (Qu l))=lk k ((p.1,p.2)::l);rw[bh,bh,dz,D3 k l];split
  ·rfl
  ·rfl
def LS.tidy (s:LS):LS:=⟨aaR s.ts,Qu s.bs⟩
theorem lp.Gg (h1:∀t,lk t s'.ts=lk t s.ts) (h2:∀k,lk k s'.bs=lk k s.bs):lp s s':=⟨fun t y hy=>.inr ⟨y,by rw[<-h1];exact hy,WV.refl y⟩,fun k b hb=>⟨b,by rw[<-h2];exact hb,WB.refl b⟩⟩
theorem LS.rD:lp s s.tidy:=lp.Gg (fun t=>Kz t _) fun k=>D3 k _
def zH (N:Nat×Nat):List (Nat×Nat)->Option (List Ob)
 | []=>some []
 |q::l=>sel (Nat.beq q.1 N.1) (ai (zH N l) fun o=>some (obN q.2 N.2::o)) none
theorem DV {N:Nat×Nat}:∀{l:List (Nat×Nat)} {o:List Ob},zH N l=some o->cz o->∀q∈l,q=N
 | [],_,_,_,q,hq=>by cases hq
 |p::l,o,h,ho,q,hq=>by
  obtain ⟨h1,h⟩:=ar (show sel (Nat.beq p.1 N.1) (ai (zH N l) fun o=>some (obN p.2 N.2::o)) none=some o from h)
  obtain ⟨o',h2,h⟩:=ae h;cases h;rcases List.mem_cons.1 hq with e|hq
  ·subst e;have e1:q.1=N.1:=(beq_iff _ _).1 h1;have e2:=eG ho.1;exact Prod.ext e1 e2
  ·exact DV h2 ho.2 q hq
def getM {α:Type} (d:α) (t:Nat) (l:List (Nat×α)):α:= @Option.rec α (fun _=>α) d (fun x=>x) (lk t l)
def LS.norm (s:LS) (ts:List (Nat×PM)) (bs:List (Nat×PB)):LS:=⟨s.ts.map fun p=>(p.1,(getM (.one .same) p.1 ts).app p.2),s.bs.map fun p=>(p.1,(getM .same p.1 bs).app p.2)⟩
theorem PM.FK (m:PM):m.app .undef= .undef:=by
 cases m with
 |one m=>cases m<;>rfl
 |agg ms=>rfl
theorem dh.norm {ts:List (Nat×PM)} {bs:List (Nat×PB)}:dh B s (s.norm ts bs):=.mk fun {F g φ tm h} r=>⟨F,g,φ,r.aaX (ft:=fun t x=>(getM (PM.one P1.same) t ts).app x) (fb:=fun k b=>(getM PB.same k bs).app b) (fun t=>PM.FK _) (fun t v x hv=>PM.va _ hv) fun k b fp q=>PB.wb _ b _ _ _ _ _ q⟩
def Gt (E:Env) (pks:List Nat) (s:LS) (it:It E):Option (LS×List Ob):=
 match it with
 | @It.frz _ Q n K _=>ai (lk K s.bs) fun b=>(match b with
  | .rows z e sz Q'=>sel (!ep K pks) (ai (zH (sz,n) (ue K s.ts++oN K s.bs)) fun o=>some (s.frz K (sel z (.sln e sz Q) (.slice e sz Q)) (fun _=>.undef),obR Q' Q::o)) none
  |_=>none)
 | .frf K=>ai (lk K s.bs) fun b=>(match b with
  | .flat e cs=>sel ((cM cs).isEmpty&&(!ep K pks&&(ue K s.ts++oN K s.bs).isEmpty)) (some (s.frz K .undef (fun off=>sel (Nat.ble off cs.length) (.imm (cs.drop off)) .undef),[])) none
  |_=>none)
 | .ren K K'=>sel (iy pks s K'&&((lk K' s.bs).isNone && !ep K pks)) (some (s.ren K K',[])) none
 | @It.shr _ Q P u K _=>ai (lk K s.bs) fun b=>(match b with
  | .rows _ e sz Q'=>some (⟨s.ts,(K,.rows false e sz P)::bG K s.bs⟩,[obR Q' Q])
  |_=>none)
 | @It.opn _ Q j x Q' K _ _=>ai (lk K s.bs) fun b=>(match b with
  | .rows _ e sz Q0=>sel (bR x).isEmpty (some (⟨s.ts,(K,.hole e 1 Q' (Nat.add (Nat.mul j 1) 0) x)::bG K s.bs⟩,[obR Q0 Q,obN sz 1])) none
  |_=>none)
 | @It.clo _ Q j R f x Q' K _ _=>ai (lk K s.bs) fun b=>(match b with
  | .hole e sz Q0 i0 x0=>sel ((bR x0).isEmpty&&Nat.ble (Nat.add f 1) sz) (some (⟨s.ts,(K,.rows false e sz Q')::bG K s.bs⟩,[obR Q0 Q,(.loc 0 i0,.loc 0 (Nat.add (Nat.mul j sz) f)),(x0,x)])) none
  |_=>none)
 | @It.DN _ Q P K e' s' _=>ai (lk K s.bs) fun b=>(match b with
  | .rows _ e sz Q0=>some (⟨s.ts,(K,.own e e' s' P none)::bG K s.bs⟩,[obR Q0 Q,obN sz 1])
  |_=>none)
 | @It.sG _ Q j R n Q' K K2 _ _ _=>ai (lk K s.bs) fun b=>(match b with
  | .own e e' sz Q0 none=>sel (iy pks s K2&&((lk K2 s.bs).isNone && !ep K pks)) (some (⟨s.ts,(K2,.rows false e' sz R)::(K,.own e e' sz Q' (some (Nat.add (Nat.mul j 1) 0,.ms K2 sz 0 n)))::bG K s.bs⟩,[obO Q0 Q])) none
  |_=>none)
 | @It.ud _ Q j R n Q' K K2 _ _=>aC (lk K s.bs) (lk K2 s.bs) fun b b2=>(match b,b2 with
  | .own e e' sz Q0 (some p),.rows _ e2 s2 R0=>sel (Nat.beq e2 e'&&(Nat.beq s2 sz&&(!Nat.beq K K2 && !ep K2 pks))) (some (⟨(s.df K2).ts,(K,.own e e' sz Q' none)::bG K (bG K2 (s.df K2).bs)⟩,[obO Q0 Q,obR R0 R,(p.2,.ms K2 sz 0 n),(.loc 0 p.1,.loc 0 (Nat.add (Nat.mul j 1) 0))])) none
  |_,_=>none)
 | @It.DU _ Q P n x K e' s' _ _=>ai (lk K s.bs) fun b=>(match b with
  | .own e e2 s2 Q0 none=>sel (!ep K pks&&(Nat.beq e2 e'&&Nat.beq s2 s')) (ai (zH (1,n) (ue K s.ts++oN K s.bs)) fun o=>some (s.frz K (.slice e 1 P) (fun _=>.undef),obO Q0 Q::o)) none
  |_=>none)
 | .born ts cs K z e sz=>sel (iy pks s K) (some (s.born ts cs K z e sz,[])) none
 | .norm ts bs=>some (s.norm ts bs,[])
 | @It.seq _ x y t _=>ai (lk t s.ts) fun x'=>some (⟨(t,y)::bG t s.ts,s.bs⟩,[(x',x)])
 | @It.beq _ x y K _=>ai (lk K s.bs) fun x'=>some (⟨s.ts,(K,y)::bG K s.bs⟩,[(bxA x',bxA x)])
 |_=>none
theorem ZS {pks:List Nat} {it:It E} {p:LS×List Ob} (hB:BOK pks B) (h:Gt E pks s it=some p) (ho:cz p.2):dh B s p.1:=by
 cases it with
 | @frz Q n K hQ=>
  subst hQ;obtain ⟨b,h1,h⟩:=ae (show ai (lk K s.bs) (fun b=>(match b with
   | .rows z e sz Q'=>sel (!ep K pks) (ai (zH (sz,Q.length) (ue K s.ts++oN K s.bs)) fun o=>some (s.frz K (sel z (.sln e sz Q) (.slice e sz Q)) (fun _=>.undef),obR Q' Q::o)) none
   |_=>none))=some p from h)
  split at h
  ·rename_i z e sz Q';obtain ⟨h2,h⟩:=ar h;obtain ⟨o,h3,h⟩:=ae h;cases h;obtain ⟨o1,o2⟩:=ho;have e1:=eF o1;subst e1;refine .mk fun {F g φ tm h} r=> ?_
   have ed:(sel z (.sln e sz Q') (.slice e sz Q'):AV)=sO (.rows z e sz Q'):=by cases z<;>rfl
   obtain ⟨F',_,r'⟩:=r.frz (K:=K) (b:=.rows z e sz Q') (D:=sO (.rows z e sz Q')) (L:=Z0 (.rows z e sz Q')) (sz:=sz) (m:=Q'.length) h1 (hB K (by simpa using h2)) (DV h3 o2) fun F' hF hi q=>qe hF rfl hi q
   refine ⟨F',g,φ,?_⟩;rw[ed];exact r'
  ·cases h
 |frf K=>
  obtain ⟨b,h1,h⟩:=ae (show ai (lk K s.bs) (fun b=>(match b with
   | .flat e cs=>sel ((cM cs).isEmpty&&(!ep K pks&&(ue K s.ts++oN K s.bs).isEmpty)) (some (s.frz K .undef (fun off=>sel (Nat.ble off cs.length) (.imm (cs.drop off)) .undef),[])) none
   |_=>none))=some p from h)
  split at h
  ·rename_i e cs;obtain ⟨h2,h⟩:=ar h;cases h;rw[Bool.and_eq_true,Bool.and_eq_true] at h2;refine .mk fun {F g φ tm h} r=> ?_
   obtain ⟨F',_,r'⟩:=r.frz (K:=K) (b:=.flat e cs) (D:=sO (.flat e cs)) (L:=Z0 (.flat e cs)) (sz:=(zW (.flat e cs)).1) (m:=(zW (.flat e cs)).2) h1 (hB K (by simpa using h2.2.1)) (fun q hq=>by rw[List.isEmpty_iff.1 h2.2.2] at hq;cases hq) fun F' hF hi q=>qe hF h2.1 hi q
   exact ⟨F',g,φ,r'⟩
  ·cases h
 |ren K K'=>
  obtain ⟨h1,h⟩:=ar (show sel (iy pks s K'&&((lk K' s.bs).isNone && !ep K pks)) (some (s.ren K K',[])) none=some p from h);cases h;simp only[Bool.and_eq_true] at h1;obtain ⟨k1,k2,k3⟩:=h1;obtain ⟨f1,f2⟩:=jH hB k1;exact dh.ren f1 (hB K (by simpa using k3)) f2 (by simpa using k2)
 | @shr Q P u K hP=>
  subst hP;obtain ⟨b,h1,h⟩:=ae (show ai (lk K s.bs) (fun b=>(match b with
   | .rows _ e sz Q'=>some (⟨s.ts,(K,.rows false e sz (Q.take u))::bG K s.bs⟩,[obR Q' Q])
   |_=>none))=some p from h)
  split at h
  ·rename_i z e sz Q';cases h;have e1:=eF ho.1;subst e1;refine dh.less ⟨fun t y hy=>.inr ⟨y,hy,WV.refl y⟩,fun k c hc=> ?_⟩
   have hc:lk k ((K,Bx.rows false e sz (Q'.take u))::bG K s.bs)=some c:=hc;rw[bh,dz] at hc;split at hc
   ·rename_i e;cases hc;exact ⟨_,e ▸ h1,WB.cut⟩
   ·exact ⟨c,hc,WB.refl c⟩
  ·cases h
 | @opn Q j x Q' K hj hQ=>
  subst hQ;obtain ⟨b,h1,h⟩:=ae (show ai (lk K s.bs) (fun b=>(match b with
   | .rows _ e sz Q0=>sel (bR x).isEmpty (some (⟨s.ts,(K,.hole e 1 (Q.set j [.undef]) (Nat.add (Nat.mul j 1) 0) x)::bG K s.bs⟩,[obR Q0 Q,obN sz 1])) none
   |_=>none))=some p from h)
  split at h
  ·rename_i z e sz Q0;obtain ⟨h2,h⟩:=ar h;cases h;obtain ⟨o1,o2,_⟩:=ho;have e1:=eF o1;have e2:=eG o2;subst e1;subst e2;refine dh.less ⟨fun t y hy=>.inr ⟨y,hy,WV.refl y⟩,fun k c hc=> ?_⟩
   have hc:lk k ((K,Bx.hole e 1 (Q0.set j [.undef]) (Nat.add (Nat.mul j 1) 0) x)::bG K s.bs)=some c:=hc;rw[bh,dz] at hc;split at hc
   ·rename_i e;cases hc;exact ⟨_,e ▸ h1,WB.opn hj h2⟩
   ·exact ⟨c,hc,WB.refl c⟩
  ·cases h
 | @clo Q j R f x Q' K hj hQ=>
  subst hQ;obtain ⟨b,h1,h⟩:=ae (show ai (lk K s.bs) (fun b=>(match b with
   | .hole e sz Q0 i0 x0=>sel ((bR x0).isEmpty&&Nat.ble (Nat.add f 1) sz) (some (⟨s.ts,(K,.rows false e sz (Q.set j (cq R f [x])))::bG K s.bs⟩,[obR Q0 Q,(.loc 0 i0,.loc 0 (Nat.add (Nat.mul j sz) f)),(x0,x)])) none
   |_=>none))=some p from h)
  split at h
  ·rename_i e sz Q0 i0 x0;obtain ⟨h2,h⟩:=ar h;cases h;obtain ⟨o1,o2,o3,_⟩:=ho;have e1:=eF o1;injection o2 with _ o2
   have o3:x0=x:=o3;rw[Bool.and_eq_true] at h2;subst e1;subst o2;subst o3;refine dh.less ⟨fun t y hy=>.inr ⟨y,hy,WV.refl y⟩,fun k c hc=> ?_⟩
   have hc:lk k ((K,Bx.rows false e sz (Q0.set j (cq R f [x0])))::bG K s.bs)=some c:=hc;rw[bh,dz] at hc;split at hc
   ·rename_i e;cases hc;exact ⟨_,e ▸ h1,WB.clo hj (Nat.le_of_ble_eq_true h2.2) h2.1⟩
   ·exact ⟨c,hc,WB.refl c⟩
  ·cases h
 | @DN Q P K e' s' hQ=>
  obtain ⟨b,h1,h⟩:=ae (show ai (lk K s.bs) (fun b=>(match b with
   | .rows _ e sz Q0=>some (⟨s.ts,(K,.own e e' s' P none)::bG K s.bs⟩,[obR Q0 Q,obN sz 1])
   |_=>none))=some p from h)
  split at h
  ·rename_i z e sz Q0;cases h;obtain ⟨o1,o2,_⟩:=ho;have e1:=eF o1;have e2:=eG o2;subst e1;subst e2;obtain ⟨n,rfl,rfl⟩:=hQ;refine dh.less ⟨fun t y hy=>.inr ⟨y,hy,WV.refl y⟩,fun k c hc=> ?_⟩
   have hc:lk k ((K,Bx.own e e' s' (List.replicate n (some [])) none)::bG K s.bs)=some c:=hc;rw[bh,dz] at hc;split at hc
   ·rename_i e;cases hc;exact ⟨_,e ▸ h1,WB.aim⟩
   ·exact ⟨c,hc,WB.refl c⟩
  ·cases h
 | @sG Q j R n Q' K K2 hj hn hQ=>
  subst hn;subst hQ;obtain ⟨b,h1,h⟩:=ae (show ai (lk K s.bs) (fun b=>(match b with
   | .own e e' sz Q0 none=>sel (iy pks s K2&&((lk K2 s.bs).isNone && !ep K pks)) (some (⟨s.ts,(K2,.rows false e' sz R)::(K,.own e e' sz (Q.set j none) (some (Nat.add (Nat.mul j 1) 0,.ms K2 sz 0 R.length)))::bG K s.bs⟩,[obO Q0 Q])) none
   |_=>none))=some p from h)
  split at h
  ·rename_i e e' sz Q0;obtain ⟨h2,h⟩:=ar h;cases h;have e1:=Ks ho.1;subst e1;rw[Bool.and_eq_true,Bool.and_eq_true] at h2;obtain ⟨f1,f2⟩:=jH hB h2.1;exact dh.sG h1 hj f1 f2 (hB K (by simpa using h2.2.2)) (by simpa using h2.2.1)
  ·cases h
 | @ud Q j R n Q' K K2 hn hQ=>
  subst hn;subst hQ;obtain ⟨b,b2,h1,h2,h⟩:=av (show aC (lk K s.bs) (lk K2 s.bs) (fun b b2=>(match b,b2 with
   | .own e e' sz Q0 (some p),.rows _ e2 s2 R0=>sel (Nat.beq e2 e'&&(Nat.beq s2 sz&&(!Nat.beq K K2 && !ep K2 pks))) (some (⟨(s.df K2).ts,(K,.own e e' sz (Q.set j (some R)) none)::bG K (bG K2 (s.df K2).bs)⟩,[obO Q0 Q,obR R0 R,(p.2,.ms K2 sz 0 R.length),(.loc 0 p.1,.loc 0 (Nat.add (Nat.mul j 1) 0))])) none
   |_,_=>none))=some p from h)
  split at h
  ·rename_i e e' sz Q0 q z e2 s2 R0;obtain ⟨h3,h⟩:=ar h;cases h;obtain ⟨o1,o2,o3,o4,_⟩:=ho;have e1:=Ks o1;have e3:=eF o2;obtain ⟨q1,q2⟩:=q;have o3:q2= .ms K2 sz 0 R.length:=o3;injection o4 with _ o4
   have o4:q1=Nat.add (Nat.mul j 1) 0:=o4;simp only[Bool.and_eq_true] at h3;obtain ⟨k1,k2,k3,k4⟩:=h3;have k1:=(beq_iff _ _).1 k1;have k2:=(beq_iff _ _).1 k2;subst e1;subst e3;subst o3;subst o4;subst k1;subst k2;exact dh.ud h1 h2 (hB K2 (by simpa using k4)) (fun e=>by rw[(beq_iff _ _).2 e] at k3;cases k3)
  ·cases h
 | @DU Q P n x K e' s' hP hn=>
  subst hP;subst hn;obtain ⟨b,h1,h⟩:=ae (show ai (lk K s.bs) (fun b=>(match b with
   | .own e e2 s2 Q0 none=>sel (!ep K pks&&(Nat.beq e2 e'&&Nat.beq s2 s')) (ai (zH (1,Q.length) (ue K s.ts++oN K s.bs)) fun o=>some (s.frz K (.slice e 1 (Q.map (zD x e' s'))) (fun _=>.undef),obO Q0 Q::o)) none
   |_=>none))=some p from h)
  split at h
  ·rename_i e e2 s2 Q0;obtain ⟨h2,h⟩:=ar h;obtain ⟨o,h3,h⟩:=ae h;cases h;obtain ⟨o1,o2⟩:=ho;have e1:=Ks o1;rw[Bool.and_eq_true,Bool.and_eq_true] at h2;have k1:=(beq_iff _ _).1 h2.2.1;have k2:=(beq_iff _ _).1 h2.2.2;subst e1;subst k1;subst k2;refine .mk fun {F g φ tm h} r=> ?_
   obtain ⟨F',_,r'⟩:=r.frz (K:=K) (b:=.own e e2 s2 Q0 none) (D:=Ej x (.own e e2 s2 Q0 none)) (L:=fun _=>.undef) (sz:=1) (m:=Q0.length) h1 (hB K (by simpa using h2.1)) (DV h3 o2) fun F' hF hi q=>⟨hF,(qe hF rfl hi q).ms,fun v off _=>.undef v⟩
   exact ⟨F',g,φ,r'⟩
  ·cases h
 |born ts cs K z e sz=>
  obtain ⟨h1,h⟩:=ar (show sel (iy pks s K) (some (s.born ts cs K z e sz,[])) none=some p from h);cases h;obtain ⟨f1,f2⟩:=jH hB h1;exact dh.born f1 f2
 |norm ts bs=>cases h;exact dh.norm
 | @seq x y t he=>
  obtain ⟨x',h1,h⟩:=ae (show ai (lk t s.ts) (fun x'=>some (⟨(t,y)::bG t s.ts,s.bs⟩,[(x',x)]))=some p from h)
  cases h;have e1:x'=x:=ho.1;subst he;subst e1;refine dh.less (lp.Gg (fun k=> ?_) fun _=>rfl)
  show lk k ((t,x')::bG t s.ts)=_;rw[bh,dz];split
  ·rename_i e;rw[e,h1]
  ·rfl
 | @beq x y K he=>
  obtain ⟨x',h1,h⟩:=ae (show ai (lk K s.bs) (fun x'=>some (⟨s.ts,(K,y)::bG K s.bs⟩,[(bxA x',bxA x)]))=some p from h)
  cases h;have e1:x'=x:=B1 ho.1;subst he;subst e1;refine dh.less (lp.Gg (fun _=>rfl) fun k=> ?_)
  show lk k ((K,x')::bG K s.bs)=_;rw[bh,dz];split
  ·rename_i e;rw[e,h1]
  ·rfl
 |_=>cases h
abbrev Sc (E:Env):=List (Nat×It E)
def gho (E:Env) (pks:List Nat):Sc E->LS->List Ob->LS×List Ob×Sc E
 | [],s,o=>(s,o,[])
 |p::l,s,o=>match p.1 with
  |0=>(match Gt E pks s p.2 with
   |some q=>gho E pks l q.1 (q.2++o)
   |none=>(s,o,p::l))
  |_+1=>(s,o,p::l)
theorem wu {pks:List Nat} (hB:BOK pks B):∀(sc:Sc E) (s:LS) (o:List Ob),cz (gho E pks sc s o).2.1->cz o/\dh B s (gho E pks sc s o).1
 | [],s,o,ho=>⟨ho,dh.refl⟩
 |(0,it)::l,s,o,ho=>by
  have e:gho E pks ((0,it)::l) s o=(match Gt E pks s it with
   |some q=>gho E pks l q.1 (q.2++o)
   |none=>(s,o,(0,it)::l)):=rfl
  rw[e] at ho ⊢;cases hq:Gt E pks s it with
  |some q=>
   rw[hq] at ho;obtain ⟨h1,h2⟩:=wu hB l q.1 (q.2++o) ho;obtain ⟨h3,h4⟩:=jG h1;exact ⟨h4,(ZS hB hq h3).trans h2⟩
  |none=>
   rw[hq] at ho;exact ⟨ho,dh.refl⟩
 |(k+1,it)::l,s,o,ho=>⟨ho,dh.refl⟩
def Qt:List (Nat×Bx)->List (Nat×Bx)->Option (List Ob)
 | [],[]=>some []
 |p::l,q::m=>sel (Nat.beq p.1 q.1) (ai (Qt l m) fun o=>some ((bxA p.2,bxA q.2)::o)) none
 |_,_=>none
theorem O2:∀{l m:List (Nat×Bx)} {o:List Ob},Qt l m=some o->cz o->l=m
 | [],[],_,_,_=>rfl
 | [],_::_,_,h,_=>by cases h
 |_::_,[],_,h,_=>by cases h
 |p::l,q::m,o,h,ho=>by
  obtain ⟨h1,h⟩:=ar (show sel (Nat.beq p.1 q.1) (ai (Qt l m) fun o=>some ((bxA p.2,bxA q.2)::o)) none=some o from h)
  obtain ⟨o',h2,h⟩:=ae h;cases h;have e1:p.1=q.1:=(beq_iff _ _).1 h1;have e2:p.2=q.2:=B1 ho.1;rw[O2 h2 ho.2,Prod.ext e1 e2]
def P2 (pks:List Nat) (s:LS):bw->Bool
 | []=>true
 |q::l=>iy pks s q.1&&((lk q.1 s.bs).isNone&&P2 pks s l)
theorem Ou {pks:List Nat} (hB:BOK pks B):∀{rs:bw},P2 pks s rs=true->∀q∈rs,s.free q.1/\B.pk q.1=false/\lk q.1 s.bs=none
 | [],_,q,hq=>by cases hq
 |p::l,h,q,hq=>by
  have h:(iy pks s p.1&&((lk p.1 s.bs).isNone&&P2 pks s l))=true:=h;rw[Bool.and_eq_true,Bool.and_eq_true] at h;rcases List.mem_cons.1 hq with e|hq
  ·subst e;obtain ⟨f1,f2⟩:=jH hB h.1;exact ⟨f1,f2,by simpa using h.2.1⟩
  ·exact Ou hB h.2.2 q hq
def GL (pks:List Nat) (s:LS) (op:Op) (f:Nat) (bs bs':List (Nat×Bx)) (xs:List AV) (y:AV) (ms:List PM) (ps rs:bw):Option (List (Nat×Bx)×AV×List Ob):=
 ai (dG op) fun c=>(match c.callee with
  | .value o=>(match aK s.ts o with
   | .fn f' fi ca=>sel (Nat.beq f' f&&(fg (gh s.ts c.args.toList)&&(pA (ps++rs)&&(pq s.bs ps ps&&(fk ps (cM (fi++gh s.ts c.args.toList++ca))&&(P2 pks s rs&&(pj bs' (ps++rs) (ps++rs)&&fk (kn (ps++rs)) (bR y))))))))
    (aC (pd s.bs (ps++rs) ps) (uc bs' (ps++rs) (ps++rs)) fun b ob=>ai (Qt b bs) fun o=>some (ob,kh (foP (ps++rs)) y,(.agg (GQ ms (iD (fiP (ps++rs)) (fi++gh s.ts c.args.toList++ca))),.agg xs)::o)) none
   |_=>none)
  |_=>none)
theorem BZ {pks:List Nat} {op:Op} {f:Nat} {bs bs':List (Nat×Bx)} {xs:List AV} {y:AV} {ms:List PM} {ps rs:bw} {q:List (Nat×Bx)×AV×List Ob} (hB:BOK pks B) (h:GL pks s op f bs bs' xs y ms ps rs=some q) (ho:cz q.2.2) (hC:bl E f bs xs y bs'):
  ∃c o fi ca,dG op=some c/\c.callee= .value o/\aK s.ts o= .fn f fi ca/\fg (gh s.ts c.args.toList)=true/\pA (ps++rs)=true/\pd s.bs (ps++rs) ps=some bs/\pq s.bs ps ps=true/\fk ps (cM (fi++gh s.ts c.args.toList++ca))=true/\(∀q∈rs,s.free q.1/\B.pk q.1=false/\lk q.1 s.bs=none)/\
   bl E f bs (iD (fiP (ps++rs)) (fi++gh s.ts c.args.toList++ca)) y bs'/\uc bs' (ps++rs) (ps++rs)=some q.1/\pj bs' (ps++rs) (ps++rs)=true/\fk (kn (ps++rs)) (bR y)=true/\q.2.1=kh (foP (ps++rs)) y:=by
 unfold GL at h;obtain ⟨c,h1,h⟩:=ae h;split at h
 ·rename_i o hc;split at h
  ·rename_i f' fi ca hf;obtain ⟨h2,h⟩:=ar h;obtain ⟨b,ob,h3,h4,h⟩:=av h;obtain ⟨o',h5,h⟩:=ae h;cases h;simp only[Bool.and_eq_true] at h2;obtain ⟨k1,k2,k3,k4,k5,k6,k7,k8⟩:=h2;have e1:f'=f:=(beq_iff _ _).1 k1;subst e1;obtain ⟨o1,o2⟩:=ho;have e2:=O2 h5 o2;subst e2;have e3:GQ ms (iD (fiP (ps++rs)) (fi++gh s.ts c.args.toList++ca))=xs:=by
    have:=o1;simpa using this
   exact ⟨c,o,fi,ca,h1,hc,hf,k2,k3,h3,k4,k5,Ou hB k6,.mk fun ent has=>hC.go ent (e3 ▸ L5 has),h4,k7,k8,rfl⟩
  ·cases h
 ·cases h
abbrev nK (E:Env):=Option (LS×List Ob×Sc E)
def zt (E:Env) (pks:List Nat) (p:Oper) (s:LS) (sc:Sc E) (o:List Ob) (ih:LS->Sc E->List Ob->nK E):nK E:=
 sel (ti p.op) (ai (om E pks s p.op p.dst) fun r=>ih (r.1.bc p.dst r.2.1).tidy sc (r.2.2.2++o)) none
def DD (E:Env) (pks:List Nat) (p:Oper) (s:LS) (it:It E) (sc:Sc E) (o:List Ob) (ih:LS->Sc E->List Ob->nK E):nK E:=
 match it with
 | @It.call _ f bs bs' xs y _ ms ps rs=>ai (GL pks s p.op f bs bs' xs y ms ps rs) fun q=>ih (LS.bc ⟨s.ts,q.1++s.bs⟩ p.dst q.2.1).tidy sc (q.2.2++o)
 |it=>sel (ti p.op) (ai (PV E pks s p.op p.dst it) fun r=>ih (r.1.bc p.dst r.2.1).tidy sc (r.2.2.2++o)) none
def Ot (E:Env) (pks:List Nat) (p:Oper) (s:LS) (sc:Sc E) (o:List Ob) (ih:LS->Sc E->List Ob->nK E):nK E:=
 match sc with
 | []=>zt E pks p s [] o ih
 |q::l=>(match q.1 with
  |0=>DD E pks p s q.2 l o ih
  |k+1=>zt E pks p s ((k,q.2)::l) o ih)
def PZ (E:Env) (nt:Nat) (pks:List Nat) (all:List Oper) (p:Oper) (ih:LS->Sc E->List Ob->nK E) (q:LS×List Ob×Sc E):nK E:=
 sel (cm nt p.dst) (ai (jL all p q.1.ts) fun w=>sel w (Ot E pks p q.1 q.2.2 q.2.1 ih) (ih (q.1.bc p.dst (.tup [])).tidy q.2.2 q.2.1)) none
def JF (E:Env) (nt:Nat) (pks:List Nat) (all:List Oper):List Oper->LS->Sc E->List Ob->nK E
 | []=>fun s sc o=>some (s,o,sc)
 |p::l=>fun s sc o=>PZ E nt pks all p (JF E nt pks all l) (gho E pks sc s o)
def Ce (E:Env) (nt:Nat) (B:Bs) (all l:List Oper) (ih:LS->Sc E->List Ob->nK E):Prop:=
 ∀s sc o r,ih s sc o=some r->cz r.2.1->cz o/\hY E nt B all l s r.1
theorem yW {pks:List Nat} {p:Oper} {sc:Sc E} {o:List Ob} {ih:LS->Sc E->List Ob->nK E} {r:LS×List Ob×Sc E} (hB:BOK pks B) (hih:Ce E nt B all l ih) (hd:cm nt p.dst=true) (hw:jL all p s.ts=some true) (h:zt E pks p s sc o ih=some r) (ho:cz r.2.1):cz o/\hY E nt B all (p::l) s r.1:=by
 obtain ⟨h1,h⟩:=ar h;obtain ⟨q,h2,h⟩:=ae h;obtain ⟨k1,k2⟩:=hih _ _ _ _ h ho;obtain ⟨k3,k4⟩:=jG k1;exact ⟨k4,.op hd hw h1 (rJ hB h2 k3) (.ghost (dh.less LS.rD) k2)⟩
theorem P0 {pks:List Nat} {p:Oper} {it:It E} {sc:Sc E} {o:List Ob} {ih:LS->Sc E->List Ob->nK E} {r:LS×List Ob×Sc E} (hB:BOK pks B) (hih:Ce E nt B all l ih) (hd:cm nt p.dst=true) (hw:jL all p s.ts=some true) (h:DD E pks p s it sc o ih=some r) (ho:cz r.2.1):cz o/\hY E nt B all (p::l) s r.1:=by
 unfold DD at h;split at h
 ·rename_i f bs bs' xs y hC ms ps rs;obtain ⟨q,h2,h⟩:=ae h;obtain ⟨k1,k2⟩:=hih _ _ _ _ h ho;obtain ⟨k3,k4⟩:=jG k1;obtain ⟨c,w,fi,ca,c1,c2,c3,c4,c5,c6,c7,c8,c9,c10,c11,c12,c13,c14⟩:=BZ hB h2 k3 hC;exact ⟨k4,.call hd hw c1 c2 c3 rfl c4 c5 c6 c7 c8 c9 c10 c11 c12 c13 (.ghost (dh.less LS.rD) (c14 ▸ k2))⟩
 ·obtain ⟨h1,h⟩:=ar h;obtain ⟨q,h2,h⟩:=ae h;obtain ⟨k1,k2⟩:=hih _ _ _ _ h ho;obtain ⟨k3,k4⟩:=jG k1;exact ⟨k4,.op hd hw h1 (Io hB h2 k3) (.ghost (dh.less LS.rD) k2)⟩
theorem YJ {pks:List Nat} {p:Oper} {ih:LS->Sc E->List Ob->nK E} (hB:BOK pks B) (hih:Ce E nt B all l ih):Ce E nt B all (p::l) (fun s sc o=>PZ E nt pks all p ih (gho E pks sc s o)):=by
 intro s sc o r h ho;have key:∀q:LS×List Ob×Sc E,PZ E nt pks all p ih q=some r->cz q.2.1/\hY E nt B all (p::l) q.1 r.1:=fun q h=>by
  obtain ⟨hd,h⟩:=ar h;obtain ⟨w,hw,h⟩:=ae h;rw[aA] at h;split at h
  ·rename_i e;subst e;unfold Ot at h;split at h
   ·exact yW hB hih hd hw h ho
   ·split at h
    ·exact P0 hB hih hd hw h ho
    ·exact yW hB hih hd hw h ho
  ·rename_i e;have e:w=false:=by simpa using e
   subst e;obtain ⟨k1,k2⟩:=hih _ _ _ _ h ho;exact ⟨k1,.skip hd hw (.ghost (dh.less LS.rD) k2)⟩
 obtain ⟨k1,k2⟩:=key _ h;obtain ⟨k3,k4⟩:=wu hB sc s o k1;exact ⟨k3,.ghost k4 k2⟩
theorem E1 {pks:List Nat} (hB:BOK pks B):∀l:List Oper,Ce E nt B all l (JF E nt pks all l)
 | []=>fun s sc o r h ho=>by
  have h:some (s,o,sc)=some r:=h;cases h;exact ⟨ho,.nil⟩
 |p::l=>YJ hB (E1 hB l)
end
section
variable {F F':Hf} {g g':Gb} {B:Bs} {φ:Nat->List Nat} {s s' s1:LS} {tm:Tr SV} {h:Hs} {hp:Hf} {E:Env} {nt:Nat}
variable {W cur nc M:Nat} {vs vs':List LS} {laid:bw} {pis:List PI} {all l:List Oper} {o:Oper}
theorem DR.same {base:Nat} {pp:List (Rc×PI)} {Fs:Nat->Hf} {lim:Nat->Nat} {tm:Tf} (D:DR B base W cur nc vs laid pp g φ Fs lim tm h) (hl:vs'.length=vs.length) (hs:∀(j:Nat) (s':LS),vs'[j]? =some s'->∃s,vs[j]? =some s/\(∀t,lk t s'.ts=lk t s.ts)/\∀k,lk k s'.bs=lk k s.bs):DR B base W cur nc vs' laid pp g φ Fs lim tm h:=by
 refine {D with r:=fun j s hj=> ?_,up:=fun j j' s s' hle h1 h2=> ?_,fb:=fun j s hj=> ?_,bb:=fun j s hj k b hb=> ?_,lm:=fun j s hj=> ?_,top:=hl.trans D.top,pi:=fun q hq=> ?_,pr:=fun q hq j s hj k b hb=> ?_,pf:=fun q hq i hi j s hj=> ?_}
 ·obtain ⟨s0,a,b,c⟩:=hs j s hj;exact (D.r j s0 a).less (lp.Gg b c)
 ·obtain ⟨s0,a,b,c⟩:=hs j s h1;obtain ⟨s0',a',b',c'⟩:=hs j' s' h2;obtain ⟨u1,u2⟩:=D.up j j' s0 s0' hle a a';exact ⟨u1,fun k b0 hb=>by rw[c'];exact u2 k b0 (by rw[<-c];exact hb)⟩
 ·obtain ⟨s0,a,_,_⟩:=hs j s hj;exact D.fb j s0 a
 ·obtain ⟨s0,a,_,c⟩:=hs j s hj;exact D.bb j s0 a k b (by rw[<-c];exact hb)
 ·obtain ⟨s0,a,_,_⟩:=hs j s hj;exact D.lm j s0 a
 ·obtain ⟨p1,p2,p3,p4,p5⟩:=D.pi q hq;refine ⟨p1,p2,p3,p4,fun hn=> ?_⟩
  obtain ⟨q1,q2,q3,q4⟩:=p5 hn;refine ⟨q1,q2,q3,fun j s hj hlt=> ?_⟩
  obtain ⟨s0,a,_,_⟩:=hs j s hj;exact q4 j s0 a hlt
 ·obtain ⟨s0,a,_,c⟩:=hs j s hj;exact D.pr q hq j s0 a k b (by rw[<-c];exact hb)
 ·obtain ⟨s0,a,_,_⟩:=hs j s hj;exact D.pf q hq i hi j s0 a
theorem dH.tidy (hl:dH E nt B all W cur nc M (vs.map LS.tidy) laid pis l s'):dH E nt B all W cur nc M vs laid pis l s':=fun {base pp g φ Fs lim tm h} hp D=>hl hp (D.same (List.length_map _) fun j s' hj=>by
 rw[List.getElem?_map] at hj;obtain ⟨s0,a,b⟩:=Option.map_eq_some_iff.1 hj;subst b;exact ⟨s0,a,fun t=>Kz t _,fun k=>D3 k _⟩)
structure Dsx where
 cur:Nat
 nc:Nat
 M:Nat
 vs:List LS
 laid:bw
 pis:List PI
def qC (m nc:Nat):List PI->Nat
 | []=>nc
 |p::l=>sel (dM m p.i) (qC m nc l) (match p.n with|0=>qC m nc l|n+1=>sel (Nat.ble n (qC m nc l)) n (qC m nc l))
def Ba (a b:List Nat):Bool:=a.all fun k=> !ep k b
def Bz (v m:Nat) (rk wk:List Nat) (call wn:Bool) (p:PI):Bool:=
 sel (dM m p.i) true ((Nat.beq p.n 0||(Nat.ble (Nat.succ v) p.n&&(!call&&wn)))&&((!call||p.wn)&&(Ba wk p.rk&&(Ba wk p.wk&&Ba rk p.wk))))
theorem vS {a b:List Nat} (h:Ba a b=true):∀k∈a,k∉b:=fun k hk hb=>by
 have:=List.all_eq_true.1 h k hk;rw[(l3 k b).2 hb] at this;cases this
theorem Fm {v m:Nat} {rk wk:List Nat} {call wn:Bool} {p:PI} (h:Bz v m rk wk call wn p=true):yD v m rk wk call wn p:=by
 unfold Bz at h;rw[aA] at h;split at h
 ·rename_i hb;exact .inl hb
 ·right;simp only[Bool.and_eq_true,Bool.or_eq_true,Bool.not_eq_true'] at h;obtain ⟨h1,h2,h3,h4,h5⟩:=h;refine ⟨fun hn=> ?_,fun hc=> ?_,fun k hk=>⟨vS h3 k hk,vS h4 k hk⟩,vS h5⟩
  ·rcases h1 with h1|⟨h1,h6,h7⟩
   ·exact absurd ((beq_iff _ _).1 h1) hn
   ·exact ⟨Nat.le_of_ble_eq_true h1,h6,h7⟩
  ·rcases h2 with h2|h2
   ·rw[hc] at h2;cases h2
   ·exact h2
def laidB (m:Nat) (ks:List Nat) (laid:bw):Bool:=laid.all fun q=> !ep q.1 ks||dM m q.2
theorem KC {m:Nat} {ks:List Nat} {laid:bw} (h:laidB m ks laid=true):∀k j,k∈ks->(k,j)∈laid->dM m j=true:=fun k j hk hj=>by
 have:=List.all_eq_true.1 h (k,j) hj;simp only[Bool.or_eq_true,Bool.not_eq_true'] at this;rcases this with c|c
 ·rw[(l3 k ks).2 hk] at c;cases c
 ·exact c
def wkB (a b:WK):Bool:=
 match a,b with
 |none,none=>true
 |some p,some q=>Nat.beq p.1 q.1&&(p.2==q.2)
 |_,_=>false
theorem afB {a b:WK} (h:wkB a b=true):a=b:=by
 unfold wkB at h;split at h
 ·rfl
 ·rw[Bool.and_eq_true] at h;have e1:=(beq_iff _ _).1 h.1;have e2:=beq_iff_eq.1 h.2;rw[Prod.ext e1 e2]
 ·cases h
def D0 (f:LS->Option Res) (x:AV) (Wk:WK) (d:Option Nat):List LS->Nat->Option (List LS×List Ob)
 | []=>fun _=>some ([],[])
 |s::l=>fun v=>(match v with
  |0=>aC (f s) (D0 f x Wk d l 0) fun r q=>sel (wkB r.2.2.1 Wk) (some (r.1.bc d x::q.1,(r.2.1,x)::(r.2.2.2++q.2))) none
  |v+1=>ai (D0 f x Wk d l v) fun q=>some ((s.pt Wk).bc d .undef::q.1,q.2))
theorem DZ {op:Op} {f:LS->Option Res} {x:AV} {Wk:WK} {d:Option Nat} (hf:∀s r,f s=some r->eO E B op s r):∀{vs:List LS} {v:Nat} {q:List LS×List Ob},D0 f x Wk d vs v=some q->cz q.2->q.1.length=vs.length/\(∀(j:Nat) (s:LS),vs[j]? =some s->v<=j->∃t,q.1[j]? =some (t.bc d x)/\aO E B op s t x Wk)/\∀(j:Nat) (s:LS),vs[j]? =some s->j<v->q.1[j]? =some ((s.pt Wk).bc d .undef)
 | [],v,q,h,_=>by
  have h:some ([],[])=some q:=h;cases h;exact ⟨rfl,fun j s hj=>by simp at hj,fun j s hj=>by simp at hj⟩
 |s::l,0,q,h,ho=>by
  obtain ⟨r,q',h1,h2,h⟩:=av (show aC (f s) (D0 f x Wk d l 0) (fun r q=>sel (wkB r.2.2.1 Wk) (some (r.1.bc d x::q.1,(r.2.1,x)::(r.2.2.2++q.2))) none)=some q from h)
  obtain ⟨h3,h⟩:=ar h;cases h;obtain ⟨o1,o2⟩:=ho;obtain ⟨o3,o4⟩:=jG o2;obtain ⟨i1,i2,i3⟩:=DZ hf h2 o4;refine ⟨by simp[i1],fun j s' hj hle=> ?_,fun j s' hj hlt=>by omega⟩
  cases j with
  |zero=>
   have e:s=s':=by simpa using hj
   subst e;refine ⟨r.1,rfl,?_⟩;have:=hf s r h1 o3;have e1:r.2.1=x:=o1;rw[e1,afB h3] at this;exact this
  |succ j=>exact i2 j s' (by simpa using hj) (Nat.zero_le _)
 |s::l,v+1,q,h,ho=>by
  obtain ⟨q',h2,h⟩:=ae (show ai (D0 f x Wk d l v) (fun q=>some ((s.pt Wk).bc d .undef::q.1,q.2))=some q from h)
  cases h;obtain ⟨i1,i2,i3⟩:=DZ hf h2 ho;refine ⟨by simp[i1],fun j s' hj hle=> ?_,fun j s' hj hlt=> ?_⟩
  ·cases j with
   |zero=>omega
   |succ j=>exact i2 j s' (by simpa using hj) (by omega)
  ·cases j with
   |zero=>
    have e:s=s':=by simpa using hj
    subst e;rfl
   |succ j=>exact i3 j s' (by simpa using hj) (by omega)
abbrev lq (E:Env):=Option (LS×List Ob×Sc E)
def RO (W:Nat) (o:Oper) (d:Dsx) (sc:Sc E) (ob:List Ob) (f:LS->Option Res) (ih:Dsx->Sc E->List Ob->lq E):lq E:=
 ai (d.vs[qC (cA W d.M o) d.nc d.pis]?) fun sl=>aC (f sl) (tA sl.ts sl.bs o.op) fun r rk=>
  sel (laidB (cA W d.M o) (rk++lD r.2.2.1) d.laid&&d.pis.all (Bz (qC (cA W d.M o) d.nc d.pis) (cA W d.M o) rk (lD r.2.2.1) false (vu r.2.2.1)))
   (ai (D0 f r.2.1 r.2.2.1 o.dst d.vs (qC (cA W d.M o) d.nc d.pis)) fun q=>ih ⟨Nat.succ d.cur,d.nc,mH W d.M d.cur (cA W d.M o),q.1.map LS.tidy,Gm r.2.2.1 d.cur d.laid,⟨d.cur,0,rk,lD r.2.2.1,vu r.2.2.1⟩::d.pis⟩ sc (q.2++ob)) none
def RN (E:Env) (pks:List Nat) (W:Nat) (o:Oper) (d:Dsx) (st:LS) (it:It E) (sc:Sc E) (ob:List Ob) (ih:Dsx->Sc E->List Ob->lq E):lq E:=
 match it with
 | @It.call _ f bs bs' xs y _ ms ps rs=>sel (laidB (cA W d.M o) (ps.map (·.1)) d.laid&&d.pis.all (Bz d.nc (cA W d.M o) [] (ps.map (·.1)) true false))
   (ai (GL pks st o.op f bs bs' xs y ms ps rs) fun q=>ih ⟨Nat.succ d.cur,Nat.succ d.nc,mH W d.M d.cur (cA W d.M o),((d.vs.map fun s=>(s.px ps rs).bc o.dst .undef)++ [LS.bc ⟨st.ts,q.1++st.bs⟩ o.dst q.2.1]).map LS.tidy,d.laid,⟨d.cur,Nat.succ d.nc,[],ps.map (·.1),false⟩::d.pis⟩ sc (q.2.2++ob)) none
 |it=>sel (dG o.op).isNone (RO W o d sc ob (fun s=>PV E pks s o.op o.dst it) ih) none
def RM (E:Env) (pks:List Nat) (W:Nat) (o:Oper) (d:Dsx) (sc:Sc E) (ob:List Ob) (ih:Dsx->Sc E->List Ob->lq E):lq E:=sel (dG o.op).isNone (RO W o d sc ob (fun s=>om E pks s o.op o.dst) ih) none
def adE (E:Env) (pks:List Nat) (W:Nat) (o:Oper) (d:Dsx) (st:LS) (sc:Sc E) (ob:List Ob) (ih:Dsx->Sc E->List Ob->lq E):lq E:=
 match sc with
 | []=>RM E pks W o d [] ob ih
 |q::l=>(match q.1 with
  |0=>RN E pks W o d st q.2 l ob ih
  |k+1=>RM E pks W o d ((k,q.2)::l) ob ih)
def adF (E:Env) (nt:Nat) (pks:List Nat) (all:List Oper) (W:Nat) (o:Oper) (d:Dsx) (sc:Sc E) (ob:List Ob) (ih:Dsx->Sc E->List Ob->lq E):lq E:=
 sel (Nat.ble (Nat.succ d.cur) W&&(cm nt o.dst&&gp d.cur (dB o))) (ai (d.vs[d.nc]?) fun st=>ai (jL all o st.ts) fun w=>
  sel w (adE E pks W o d st sc ob ih) (ih ⟨Nat.succ d.cur,d.nc,mH W d.M d.cur (cA W d.M o),(d.vs.map fun s=>s.bc o.dst (.tup [])).map LS.tidy,d.laid,⟨d.cur,0,[],[],true⟩::d.pis⟩ sc ob)) none
def Ey (E:Env) (nt:Nat) (pks:List Nat) (all:List Oper) (W:Nat):List Oper->Dsx->Sc E->List Ob->lq E
 | []=>fun d sc ob=>ai (d.vs[d.nc]?) fun s=>some (s,ob,sc)
 |o::l=>fun d sc ob=>adF E nt pks all W o d sc ob (Ey E nt pks all W l)
def tQ (E:Env) (nt:Nat) (B:Bs) (all:List Oper) (W:Nat) (l:List Oper) (ih:Dsx->Sc E->List Ob->lq E):Prop:=
 ∀d sc o r,ih d sc o=some r->cz r.2.1->cz o/\dH E nt B all W d.cur d.nc d.M d.vs d.laid d.pis l r.1
theorem LG {f:LS->Option Res} {d:Dsx} {st:LS} {sc:Sc E} {ob:List Ob} {ih:Dsx->Sc E->List Ob->lq E} {r:LS×List Ob×Sc E} (hih:tQ E nt B all W l ih) (hf:∀s r,f s=some r->eO E B o.op s r) (hc:dG o.op=none) (fS:d.cur<W) (hd:(cm nt o.dst&&gp d.cur (dB o))=true) (hst:d.vs[d.nc]? =some st) (hw:jL all o st.ts=some true)
  (h:RO W o d sc ob f ih=some r) (ho:cz r.2.1):cz ob/\dH E nt B all W d.cur d.nc d.M d.vs d.laid d.pis (o::l) r.1:=by
 obtain ⟨sl,h1,h⟩:=ae h;obtain ⟨r0,rk,h2,h3,h⟩:=av h;obtain ⟨h4,h⟩:=ar h;obtain ⟨q,h5,h⟩:=ae h;obtain ⟨k1,k2⟩:=hih _ _ _ _ h ho;obtain ⟨k3,k4⟩:=jG k1;obtain ⟨m1,m2,m3⟩:=DZ hf h5 k3;rw[Bool.and_eq_true] at h4;refine ⟨k4,dH.op fS hd hst hw hc h1 m1 m2 m3 h3 (fun k j hk hj=>KC h4.1 k j (List.mem_append.2 hk) hj) (fun p hp=>Fm (List.all_eq_true.1 h4.2 p hp)) (dH.tidy k2)⟩
theorem aam {pks:List Nat} {d:Dsx} {st:LS} {it:It E} {sc:Sc E} {ob:List Ob} {ih:Dsx->Sc E->List Ob->lq E} {r:LS×List Ob×Sc E} (hB:BOK pks B) (hih:tQ E nt B all W l ih) (fS:d.cur<W) (hd:(cm nt o.dst&&gp d.cur (dB o))=true) (hst:d.vs[d.nc]? =some st) (hw:jL all o st.ts=some true)
  (h:RN E pks W o d st it sc ob ih=some r) (ho:cz r.2.1):cz ob/\dH E nt B all W d.cur d.nc d.M d.vs d.laid d.pis (o::l) r.1:=by
 unfold RN at h;split at h
 ·rename_i f bs bs' xs y hC ms ps rs;obtain ⟨h4,h⟩:=ar h;obtain ⟨q,h2,h⟩:=ae h;obtain ⟨k1,k2⟩:=hih _ _ _ _ h ho;obtain ⟨k3,k4⟩:=jG k1;obtain ⟨c,w,fi,ca,c1,c2,c3,c4,c5,c6,c7,c8,c9,c10,c11,c12,c13,c14⟩:=BZ hB h2 k3 hC;rw[Bool.and_eq_true] at h4;refine ⟨k4,dH.call fS hd hst hw c1 c2 c3 rfl c4 c5 c6 c7 c8 c9 c10 c11 c12 c13 (KC h4.1) (fun p hp=>Fm (List.all_eq_true.1 h4.2 p hp)) (dH.tidy (c14 ▸ k2))⟩
 ·obtain ⟨h1,h⟩:=ar h;exact LG hih (fun s r hr=>Io hB hr) (by simpa using h1) fS hd hst hw h ho
theorem LF {pks:List Nat} {d:Dsx} {st:LS} {sc:Sc E} {ob:List Ob} {ih:Dsx->Sc E->List Ob->lq E} {r:LS×List Ob×Sc E} (hB:BOK pks B) (hih:tQ E nt B all W l ih) (fS:d.cur<W) (hd:(cm nt o.dst&&gp d.cur (dB o))=true) (hst:d.vs[d.nc]? =some st) (hw:jL all o st.ts=some true)
  (h:RM E pks W o d sc ob ih=some r) (ho:cz r.2.1):cz ob/\dH E nt B all W d.cur d.nc d.M d.vs d.laid d.pis (o::l) r.1:=by
 obtain ⟨h1,h⟩:=ar h;exact LG hih (fun s r hr=>rJ hB hr) (by simpa using h1) fS hd hst hw h ho
theorem aal {pks:List Nat} {ih:Dsx->Sc E->List Ob->lq E} (hB:BOK pks B) (hih:tQ E nt B all W l ih):tQ E nt B all W (o::l) (fun d sc ob=>adF E nt pks all W o d sc ob ih):=by
 intro d sc ob r h ho;obtain ⟨h1,h⟩:=ar h;obtain ⟨st,hst,h⟩:=ae h;obtain ⟨w,hw,h⟩:=ae h;rw[Bool.and_eq_true] at h1;have fS:d.cur<W:=Nat.le_of_ble_eq_true h1.1;rw[aA] at h;split at h
 ·rename_i e;subst e;unfold adE at h;split at h
  ·exact LF hB hih fS h1.2 hst hw h ho
  ·split at h
   ·exact aam hB hih fS h1.2 hst hw h ho
   ·exact LF hB hih fS h1.2 hst hw h ho
 ·rename_i e;have e:w=false:=by simpa using e
  subst e;obtain ⟨k1,k2⟩:=hih _ _ _ _ h ho;exact ⟨k1,dH.skip fS h1.2 hst hw (dH.tidy k2)⟩
theorem BS {pks:List Nat} (hB:BOK pks B):∀l:List Oper,tQ E nt B all W l (Ey E nt pks all W l)
 | []=>fun d sc o r h ho=>by
  obtain ⟨s,h1,h⟩:=ae (show ai (d.vs[d.nc]?) (fun s=>some (s,o,sc))=some r from h)
  cases h;exact ⟨ho,dH.nil h1⟩
 |o::l=>aal hB (BS hB l)
end
section
variable {F F':Hf} {g g':Gb} {B:Bs} {φ:Nat->List Nat} {s s' s1:LS} {E:Env} {nt:Nat}
def rK:Code->Nat->Code
 | .seq a _,0=>a
 | .seq _ b,_=>b
 | .cond _ a _,0=>a
 | .cond _ _ b,_=>b
 | .block _ c,_=>c
 | .loop c,_=>c
 |_,_=>.skip
def lW (c:Code):List Nat->Code
 | []=>c
 |i::p=>rK (lW c p) i
inductive KP where
 |code (p:List Nat) (c:Code)|block (id:Nat)|loop (p:List Nat) (c:Code)
def KP.ki:KP->KI
 | .code _ c=>.code c
 | .block id=>.block id
 | .loop _ c=>.loop c
def fj (c:Code):List Nat->List KP
 | []=> []
 |i::p=>
  match lW c p with
  | .seq _ b=>(match i with|0=>.code (1::p) b::fj c p|_=>fj c p)
  | .block id _=>.block id::fj c p
  | .loop b=>.loop p b::fj c p
  |_=>fj c p
structure Fx (E:Env) where
 fn:Func
 code:Code
 pks:List Nat
 outs:List Nat
inductive Md where
 |ent (c:Code) (p:List Nat) (chk:Bool)|out (e:Ex)
inductive Stop where
 |at (p:List Nat) (s:LS)|ret (y:AV) (bs:List (Nat×Bx))
abbrev so:=List (List Nat×List (Nat×PM)×List (Nat×PB))
def eqP:List Nat->List Nat->Bool
 | []=>fun q=>(match q with| []=>true|_=>false)
 |a::p=>fun q=>(match q with| []=>false|b::q=>sel (Nat.beq a b) (eqP p q) false)
def Lo (p:List Nat):so->Option (List (Nat×PM)×List (Nat×PB))
 | []=>none
 |x::l=>sel (eqP x.1 p) (some x.2) (Lo p l)
def xu (s:LS):List (Nat×PM)->List (Nat×AV)
 | []=> []
 |q::l=>(q.1,q.2.app (rL (lk q.1 s.ts)))::xu s l
def A1 (s:LS):List (Nat×PB)->Option (List (Nat×Bx))
 | []=>some []
 |q::l=>aC (lk q.1 s.bs) (A1 s l) fun b r=>some ((q.1,q.2.app b)::r)
theorem AY {t:Nat} {y:AV}:∀{l:List (Nat×PM)},lk t (xu s l)=some y->y= .undef\/∃x,lk t s.ts=some x/\WV x y
 | [],h=>by cases h
 |(u,m)::l,h=>by
  rw[show xu s ((u,m)::l)=(u,m.app (rL (lk u s.ts)))::xu s l from rfl,bh] at h;split at h
  ·rename_i e;cases h;subst e;cases hx:lk t s.ts with
   |none=>left;exact PM.FK m
   |some x=>exact .inr ⟨x,rfl,m.wv x⟩
  ·exact AY h
theorem A0 {k:Nat} {b':Bx}:∀{l:List (Nat×PB)} {r:List (Nat×Bx)},A1 s l=some r->lk k r=some b'->∃b,lk k s.bs=some b/\WB b b'
 | [],r,h,hk=>by
  have h:some []=some r:=h;cases h;cases hk
 |(u,m)::l,r,h,hk=>by
  obtain ⟨b,r',h1,h2,h⟩:=av (show aC (lk u s.bs) (A1 s l) (fun b r=>some ((u,m.app b)::r))=some r from h)
  cases h;rw[bh] at hk;split at hk
  ·rename_i e;cases hk;subst e;exact ⟨b,h1,m.wb b⟩
  ·exact A0 h2 hk
theorem VG {lt:List (Nat×PM)} {lb:List (Nat×PB)} {r:List (Nat×Bx)} (h:A1 s lb=some r):lp s ⟨xu s lt,r⟩:=⟨fun t y hy=>AY hy,fun k b' hk=>A0 h hk⟩
def AZ (s:LS):List Nat->Option (List (Nat×Bx))
 | []=>some []
 |k::l=>aC (lk k s.bs) (AZ s l) fun b r=>some ((k,b)::r)
theorem J3 {k:Nat} {b:Bx}:∀{l:List Nat} {r:List (Nat×Bx)},AZ s l=some r->lk k r=some b->lk k s.bs=some b
 | [],r,h,hk=>by
  have h:some []=some r:=h;cases h;cases hk
 |u::l,r,h,hk=>by
  obtain ⟨b,r',h1,h2,h⟩:=av (show aC (lk u s.bs) (AZ s l) (fun b r=>some ((u,b)::r))=some r from h)
  cases h;rw[bh] at hk;split at hk
  ·rename_i e;cases hk;subst e;exact h1
  ·exact J3 h2 hk
abbrev oW:=Option (Stop×List Ob)
def retX (X:Fx E) (s:LS) (o:List Ob):oW:=
 aC (JQ E s X.fn.results.toList) (AZ s X.outs) fun ys bs=>sel (fg ys) (some (.ret (qw ys) bs,o)) none
def YK (X:Fx E) (s:LS) (sc:Sc E) (o:List Ob):oW:=(fun q:LS×List Ob×Sc E=>retX X q.1 q.2.1) (gho E X.pks sc s o)
abbrev u0 (E:Env):=Md->List KP->LS->Sc E->List Ob->oW
def YN (X:Fx E) (ih:u0 E) (ops:List Oper) (n:Nat) (draw:Bool) (ks:List KP) (s:LS) (sc:Sc E) (o:List Ob):oW:=
 sel draw ((fun q:LS×List Ob×Sc E=>ai (Ey E X.fn.ntmps X.pks ops n ops ⟨0,0,0,[q.1],[],[]⟩ q.2.2 q.2.1) fun r=>ih (.out .normal) ks r.1 r.2.2 r.2.1) (gho E X.pks sc s o))
  (ai (JF E X.fn.ntmps X.pks ops ops s sc o) fun r=>ih (.out .normal) ks r.1 r.2.2 r.2.1)
def BO (X:Fx E) (ih:u0 E) (c:Code) (p:List Nat) (ks:List KP) (s:LS) (sc:Sc E) (o:List Ob):oW:=
 match c with
 | .skip=>ih (.out .normal) ks s sc o
 | .seq a b=>ih (.ent a (0::p) true) (.code (1::p) b::ks) s sc o
 | .region _ ops draw=>YN X ih ops.toList ops.size draw ks s sc o
 | .cond x a b=>(match aK s.ts x with
  | .bool true=>ih (.ent a (0::p) true) ks s sc o
  | .bool false=>ih (.ent b (1::p) true) ks s sc o
  |_=>none)
 | .block id c=>ih (.ent c (0::p) true) (.block id::ks) s sc o
 | .loop c=>ih (.ent c (0::p) true) (.loop p c::ks) s sc o
 | .exit id=>ih (.out (.exit id)) ks s sc o
 | .ret=>YK X s sc o
 |_=>none
def KA (X:Fx E) (ih:u0 E) (e:Ex) (ks:List KP) (s:LS) (sc:Sc E) (o:List Ob):oW:=
 match ks with
 | []=>sel (qH e) (YK X s sc o) none
 | .code p c::ks=>sel (eH e) (ih (.ent c p true) ks s sc o) (ih (.out e) ks s sc o)
 | .block id::ks=>ih (.out (leave id e)) ks s sc o
 | .loop p c::ks=>sel (eH e) (ih (.ent (.loop c) p true) ks s sc o) (ih (.out e) ks s sc o)
def aio (X:Fx E) (p:List Nat) (lt:List (Nat×PM)) (lb:List (Nat×PB)) (q:LS×List Ob×Sc E):oW:=ai (A1 q.1 lb) fun bs=>some (.at p ⟨xu q.1 lt,bs⟩,q.2.1)
def DB (X:Fx E) (S:so) (ih:u0 E) (m:Md) (ks:List KP) (s:LS) (sc:Sc E) (o:List Ob):oW:=
 match m with
 | .ent c p chk=>sel chk (match Lo p S with
  |some l=>aio X p l.1 l.2 (gho E X.pks sc s o)
  |none=>BO X ih c p ks s sc o) (BO X ih c p ks s sc o)
 | .out e=>KA X ih e ks s sc o
def runK (X:Fx E) (S:so) (n:Nat):u0 E:=Nat.rec (fun _ _ _ _ _=>none) (fun _ ih=>DB X S ih) n
def rE (X:Fx E) (S:so) (p:List Nat) (s:LS) (sc:Sc E):oW:=runK X S 100000 (.ent (lW X.code p) p false) (fj X.code p) s sc []
def AtQ (X:Fx E) (B:Bs) (p:List Nat) (s:LS) (Q:Ex->LS->Prop):Prop:=Wk E X.fn.ntmps B (lW X.code p) ((fj X.code p).map KP.ki) s Q
def At (X:Fx E) (p:List Nat) (s:LS) (y:AV) (bs':List (Nat×Bx)):Prop:=∀B,BOK X.pks B->AtQ X B p s (aaF E X.fn y bs')
def KOK (X:Fx E):List KP->Prop
 | []=>True
 | .code p c::ks=>c=lW X.code p/\ks=fj X.code p/\KOK X ks
 | .loop p c::ks=>Code.loop c=lW X.code p/\ks=fj X.code p/\KOK X ks
 | .block _::ks=>KOK X ks
theorem v7 (X:Fx E):∀p,KOK X (fj X.code p)
 | []=>trivial
 |i::p=>by
  have ih:=v7 X p;unfold fj;split
  ·rename_i a b hc;split
   ·exact ⟨by simp[lW,hc,rK],by simp[fj,hc],ih⟩
   ·exact ih
  ·exact ih
  ·rename_i b hc;exact ⟨hc.symm,rfl,ih⟩
  ·exact ih
def Aj (X:Fx E) (ks:List KP):Md->Prop
 | .ent c p _=>c=lW X.code p/\ks=fj X.code p
 | .out _=>True
def alT (X:Fx E) (B:Bs) (ks:List KP) (s:LS) (Q:Ex->LS->Prop):Md->Prop
 | .ent c _ _=>Wk E X.fn.ntmps B c (ks.map KP.ki) s Q
 | .out e=>WkO E X.fn.ntmps B e (ks.map KP.ki) s Q
def Cc (X:Fx E) (B:Bs) (Q:Ex->LS->Prop):Stop->Prop
 | .at p s=>AtQ X B p s Q
 | .ret y bs=>∀e s,aaF E X.fn y bs e s->Q e s
theorem WkO.ret {Q:Ex->LS->Prop} (h:Q .ret s):∀ks:List KI,WkO E nt B .ret ks s Q
 | []=>WkO.nil h
 | .code _::ks=>WkO.adI rfl (WkO.ret h ks)
 | .block id::ks=>WkO.block (WkO.ret h ks)
 | .loop _::ks=>WkO.acq rfl (WkO.ret h ks)
def GR (X:Fx E) (B:Bs) (Q:Ex->LS->Prop) (ih:u0 E):Prop:=
 ∀m ks s sc o r,ih m ks s sc o=some r->cz r.2->KOK X ks->Aj X ks m->Cc X B Q r.1->cz o/\alT X B ks s Q m
theorem Ox {X:Fx E} {Q:Ex->LS->Prop} {sc:Sc E} {o:List Ob} {r:Stop×List Ob} (hB:BOK X.pks B) (h:YK X s sc o=some r) (ho:cz r.2) (hp:Cc X B Q r.1):cz o/\∃s1,dh B s s1/\∀e,qH e=true->Q e s1:=by
 obtain ⟨ys,bs,h1,h2,h⟩:=av (show aC (JQ E (gho E X.pks sc s o).1 X.fn.results.toList) (AZ (gho E X.pks sc s o).1 X.outs) (fun ys bs=>sel (fg ys) (some (.ret (qw ys) bs,(gho E X.pks sc s o).2.1)) none)=some r from h)
 obtain ⟨h3,h⟩:=ar h;cases h;obtain ⟨k1,k2⟩:=wu hB sc s o ho;exact ⟨k1,_,k2,fun e he=>hp e _ ⟨he,⟨ys,h1,h3,rfl⟩,fun k b hk=>J3 h2 hk⟩⟩
theorem aeA {X:Fx E} {Q:Ex->LS->Prop} {ih:u0 E} {id:Nat} {ops:Array Oper} {draw:Bool} {ks:List KP} {sc:Sc E} {o:List Ob} {r:Stop×List Ob} (hB:BOK X.pks B) (hih:GR X B Q ih) (h:YN X ih ops.toList ops.size draw ks s sc o=some r) (ho:cz r.2) (hk:KOK X ks) (hp:Cc X B Q r.1):
  cz o/\Wk E X.fn.ntmps B (.region id ops draw) (ks.map KP.ki) s Q:=by
 unfold YN at h;cases draw with
 |true=>
  obtain ⟨q,h1,h⟩:=ae h;obtain ⟨q1,q2⟩:=hih _ _ _ _ _ _ h ho hk trivial hp;obtain ⟨q3,q4⟩:=BS hB _ _ _ _ _ h1 q1;obtain ⟨q5,q6⟩:=wu hB sc s o q3;exact ⟨q5,Wk.JE q6 (Wk.drawn q4 q2)⟩
 |false=>
  obtain ⟨q,h1,h⟩:=ae h;obtain ⟨q1,q2⟩:=hih _ _ _ _ _ _ h ho hk trivial hp;obtain ⟨q3,q4⟩:=E1 hB _ _ _ _ _ h1 q1;exact ⟨q3,Wk.region q4 q2⟩
theorem FF {X:Fx E} {Q:Ex->LS->Prop} {ih:u0 E} {c:Code} {p:List Nat} {ks:List KP} {sc:Sc E} {o:List Ob} {r:Stop×List Ob} (hB:BOK X.pks B) (hih:GR X B Q ih) (h:BO X ih c p ks s sc o=some r) (ho:cz r.2) (hk:KOK X ks) (h1:c=lW X.code p) (h2:ks=fj X.code p) (hp:Cc X B Q r.1):
  cz o/\Wk E X.fn.ntmps B c (ks.map KP.ki) s Q:=by
 unfold BO at h;split at h
 ·obtain ⟨q1,q2⟩:=hih _ _ _ _ _ _ h ho hk trivial hp;exact ⟨q1,Wk.skip q2⟩
 ·rename_i a b;obtain ⟨q1,q2⟩:=hih _ _ _ _ _ _ h ho ⟨by simp[lW,<-h1,rK],by simp[fj,<-h1,h2],hk⟩ ⟨by simp[lW,<-h1,rK],by simp[fj,<-h1,h2]⟩ hp
  exact ⟨q1,Wk.seq q2⟩
 ·exact aeA hB hih h ho hk hp
 ·rename_i x a b;split at h
  ·rename_i hv;obtain ⟨q1,q2⟩:=hih _ _ _ _ _ _ h ho hk ⟨by simp[lW,<-h1,rK],by simp[fj,<-h1,h2]⟩ hp
   exact ⟨q1,Wk.RX hv q2⟩
  ·rename_i hv;obtain ⟨q1,q2⟩:=hih _ _ _ _ _ _ h ho hk ⟨by simp[lW,<-h1,rK],by simp[fj,<-h1,h2]⟩ hp
   exact ⟨q1,Wk.RY hv q2⟩
  ·cases h
 ·rename_i id c;obtain ⟨q1,q2⟩:=hih _ _ _ _ _ _ h ho hk ⟨by simp[lW,<-h1,rK],by simp[fj,<-h1,h2]⟩ hp
  exact ⟨q1,Wk.block q2⟩
 ·rename_i c;obtain ⟨q1,q2⟩:=hih _ _ _ _ _ _ h ho ⟨h1,h2,hk⟩ ⟨by simp[lW,<-h1,rK],by simp[fj,<-h1,h2]⟩ hp
  exact ⟨q1,Wk.loop q2⟩
 ·obtain ⟨q1,q2⟩:=hih _ _ _ _ _ _ h ho hk trivial hp;exact ⟨q1,Wk.exit q2⟩
 ·obtain ⟨q1,s1,q2,q3⟩:=Ox hB h ho hp;exact ⟨q1,Wk.ret (WkO.JE q2 (WkO.ret (q3 _ rfl) _))⟩
 ·cases h
theorem W9 {X:Fx E} {Q:Ex->LS->Prop} {ih:u0 E} {e:Ex} {ks:List KP} {sc:Sc E} {o:List Ob} {r:Stop×List Ob} (hB:BOK X.pks B) (hih:GR X B Q ih) (h:KA X ih e ks s sc o=some r) (ho:cz r.2) (hk:KOK X ks) (hp:Cc X B Q r.1):cz o/\WkO E X.fn.ntmps B e (ks.map KP.ki) s Q:=by
 unfold KA at h;split at h
 ·obtain ⟨he,h⟩:=ar h;obtain ⟨q1,s1,q2,q3⟩:=Ox hB h ho hp;exact ⟨q1,WkO.JE q2 (WkO.nil (q3 e he))⟩
 ·rename_i p c ks;obtain ⟨k1,k2,k3⟩:=hk;rw[aA] at h;split at h
  ·rename_i he;obtain ⟨q1,q2⟩:=hih _ _ _ _ _ _ h ho k3 ⟨k1,k2⟩ hp;rw[rO he];exact ⟨q1,WkO.code q2⟩
  ·rename_i he;obtain ⟨q1,q2⟩:=hih _ _ _ _ _ _ h ho k3 trivial hp;exact ⟨q1,WkO.adI (by simpa using he) q2⟩
 ·rename_i id ks;obtain ⟨q1,q2⟩:=hih _ _ _ _ _ _ h ho hk trivial hp;exact ⟨q1,WkO.block q2⟩
 ·rename_i p c ks;obtain ⟨k1,k2,k3⟩:=hk;rw[aA] at h;split at h
  ·rename_i he;obtain ⟨q1,q2⟩:=hih _ _ _ _ _ _ h ho k3 ⟨k1,k2⟩ hp;rw[rO he];exact ⟨q1,WkO.loop q2⟩
  ·rename_i he;obtain ⟨q1,q2⟩:=hih _ _ _ _ _ _ h ho k3 trivial hp;exact ⟨q1,WkO.acq (by simpa using he) q2⟩
theorem DC (X:Fx E) (S:so) (Q:Ex->LS->Prop) (hB:BOK X.pks B):∀n,GR X B Q (runK X S n)
 |0=>fun m ks s sc o r h=>by
  have h:none=some r:=h;cases h
 |n+1=>fun m ks s sc o r h ho hk hm hp=>by
  have ih:=DC X S Q hB n;have h:DB X S (runK X S n) m ks s sc o=some r:=h;cases m with
  |out e=>exact W9 hB ih h ho hk hp
  |ent c p chk=>
   obtain ⟨m1,m2⟩:=hm;unfold DB at h;dsimp only at h;rw[aA] at h;split at h
   ·split at h
    ·rename_i l hl;obtain ⟨bs,h1,h⟩:=ae h;cases h;obtain ⟨k1,k2⟩:=wu hB sc s o ho;subst m1;subst m2;exact ⟨k1,Wk.JE (k2.trans (dh.less (VG (lt:=l.1) h1))) hp⟩
    ·exact FF hB ih h ho hk m1 m2 hp
   ·exact FF hB ih h ho hk m1 m2 hp
def lsA (s:LS):List AV:=.agg (s.ts.map fun p=>.ifc p.1 p.2)::s.bs.map fun p=>.ifc p.1 (bxA p.2)
theorem aaQ:∀{a b:List (Nat×AV)},(a.map fun p=>AV.ifc p.1 p.2)=(b.map fun p=>AV.ifc p.1 p.2)->a=b
 | [],[],_=>rfl
 | [],_::_,h=>by cases h
 |_::_,[],h=>by cases h
 |p::a,q::b,h=>by
  rw[List.map_cons,List.map_cons,List.cons.injEq] at h;obtain ⟨h1,h2⟩:=h;injection h1 with h3 h4
  rw[aaQ h2,Prod.ext h3 h4]
theorem R4:∀{a b:List (Nat×Bx)},(a.map fun p=>AV.ifc p.1 (bxA p.2))=(b.map fun p=>AV.ifc p.1 (bxA p.2))->a=b
 | [],[],_=>rfl
 | [],_::_,h=>by cases h
 |_::_,[],h=>by cases h
 |p::a,q::b,h=>by
  rw[List.map_cons,List.map_cons,List.cons.injEq] at h;obtain ⟨h1,h2⟩:=h;injection h1 with h3 h4
  rw[R4 h2,Prod.ext h3 (B1 h4)]
theorem agy {a b:LS} (h:lsA a=lsA b):a=b:=by
 unfold lsA at h;injection h with h1 h2
 injection h1 with h1
 cases a with|mk t1 b1=>
 cases b with|mk t2 b2=>
 have e1:t1=t2:=aaQ h1;have e2:b1=b2:=R4 h2;rw[e1,e2]
def ptA:List Nat->List AV
 | []=> []
 |i::p=>.loc i 0::ptA p
theorem VB:∀{a b:List Nat},ptA a=ptA b->a=b
 | [],[],_=>rfl
 | [],_::_,h=>by cases h
 |_::_,[],h=>by cases h
 |p::a,q::b,h=>by
  have h:AV.loc p 0::ptA a= .loc q 0::ptA b:=h;injection h with h1 h2
  injection h1 with h1
  rw[VB h2,h1]
def xn:Stop->AV
 | .at p s=>.fn 0 (ptA p) (lsA s)
 | .ret y bs=>.fn 1 [y] (bs.map fun p=>.ifc p.1 (bxA p.2))
theorem YC {a b:Stop} (h:xn a=xn b):a=b:=by
 cases a with
 | «at» p s=>
  cases b with
  | «at» p' s'=>
   have h:AV.fn 0 (ptA p) (lsA s)= .fn 0 (ptA p') (lsA s'):=h;injection h with _ h1 h2
   rw[VB h1,agy h2]
  |ret y bs=>
   have h:AV.fn 0 _ _= .fn 1 _ _:=h;injection h with h0
   cases h0
 |ret y bs=>
  cases b with
  | «at» p' s'=>
   have h:AV.fn 1 _ _= .fn 0 _ _:=h;injection h with h0
   cases h0
  |ret y' bs'=>
   have h:AV.fn 1 [y] _= .fn 1 [y'] _:=h;injection h with _ h1 h2
   injection h1 with h1
   rw[h1,R4 h2]
def JG (r:oW):List AV:= @Option.rec (Stop×List Ob) (fun _=>List AV) [.undef] (fun q=>xn q.1::Ll q.2) r
def JH (st:Stop) (r:oW):List AV:= @Option.rec (Stop×List Ob) (fun _=>List AV) [] (fun q=>xn st::JB q.2) r
theorem U5 {st:Stop} {r:oW} (h:JG r=JH st r):∃o,r=some (st,o)/\cz o:=by
 cases r with
 |none=>cases h
 |some q=>
  have h:xn q.1::Ll q.2=xn st::JB q.2:=h;injection h with h1 h2
  exact ⟨q.2,by rw[<-YC h1],Kr h2⟩
theorem agd {X:Fx E} {S:so} {p p':List Nat} {s s':LS} {sc:Sc E} {y:AV} {bs':List (Nat×Bx)} (h:JG (rE X S p s sc)=JH (.at p' s') (rE X S p s sc)) (k:At X p' s' y bs'):At X p s y bs':=fun B hB=>by
 obtain ⟨o,h1,h2⟩:=U5 h;exact (DC X S _ hB _ _ _ _ _ _ _ h1 h2 (v7 X p) ⟨rfl,rfl⟩ (k B hB)).2
theorem aev {X:Fx E} {S:so} {p:List Nat} {s:LS} {sc:Sc E} {y:AV} {bs':List (Nat×Bx)} (h:JG (rE X S p s sc)=JH (.ret y bs') (rE X S p s sc)):At X p s y bs':=fun B hB=>by
 obtain ⟨o,h1,h2⟩:=U5 h;exact (DC X S _ hB _ _ _ _ _ _ _ h1 h2 (v7 X p) ⟨rfl,rfl⟩ fun e s h=>h).2
theorem R1 {X:Fx E} {f:Nat} {bs bs':List (Nat×Bx)} {xs:List AV} {y:AV} (hk:xZ E f X.fn X.code) (hn:Nat.ble xs.length X.fn.ntmps=true) (hp:qF bs=X.pks) (h:At X [] ⟨pJ 0 xs,bs⟩ y bs'):bl E f bs xs y bs':=
 afj hk hn fun B hB=>h B (hp ▸ hB)
theorem Zl {α:Type} {b:Bool} {x y:Option α} {r:α} {G:Prop} (h:(if b=true then x else y)=some r) (k1:b=true->x=some r->G) (k2:b=false->y=some r->G):G:=by
 cases b with
 |true=>exact k1 rfl (by simpa using h)
 |false=>exact k2 rfl (by simpa using h)
theorem XS {α β:Type} {x:Option β} {f:β->Option α} {r:α} {G:Prop} (h:x.bind f=some r) (k:∀y,x=some y->f y=some r->G):G:=by
 cases x with
 |none=>simp at h
 |some y=>exact k y rfl h
end
end Go.Sim
end
