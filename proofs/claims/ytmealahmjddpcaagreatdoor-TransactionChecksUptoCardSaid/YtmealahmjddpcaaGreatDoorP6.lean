/- Texts that belong together. The first: Cuts of slices; quotients; texts; the iterator over a text; maps. -/
import Derived.Test.YtmealahmjddpcaaGreatDoorP5
set_option linter.all false
noncomputable section
namespace Go.Sim
variable {F F':Hf} {g g':Gb} {B:Bs} {φ:Nat→List Nat} {s s' s1:LS} {tm:Tf} {h:Hs} {hp:Hf} {E:Env} {nt:Nat} {all l:List Oper}
def sV (ts:List (Nat×AV)):Option Operand→Option (Option Int)
 |none=>some none
 |some x=>(match aI ts x with| .int _ n=>some (some n)|_=>none)
theorem Ai (r:Rel B F g φ s tm h) {o:Option Operand} {b:Option Int} {d n:Nat} (hb:sV s.ts o=some b) (hn:b.getD d=(n:Int)):∃c,dh tm o=some c∧c.getD d=n∧c.isSome=b.isSome∧∀m,c=some m→b=some (m:Int):=by
 cases o with
 |none=>
  cases hb;have h0:(d:Int)=(n:Int):=hn;exact ⟨none,rfl,(show d=n by omega),rfl,fun m hm=>by cases hm⟩
 |some x=>
  have hb:(match aI s.ts x with| .int _ n=>some (some n)|_=>none)=some b:=hb
  split at hb
  ·rename_i k m hv;cases hb;have hm:m=(n:Int):=hn;subst hm;obtain ⟨v,v1,v2⟩:=r.val hv (by simp)
   cases v2;refine ⟨some n,?_,rfl,rfl,fun m hm=>by cases hm;rfl⟩
   show ah (aF tm x) (fun v=>ah (eG v) fun n=>some (some n))=_
   rw[v1];rfl
  ·cases hb
theorem Hk {t:TypeId} {a:Operand} {lo hi mx:Option Operand} {v:SV} {c1 c2 c3:Option Nat} {e:TypeId} {i ie:TI} (hi':E.ty.get t=some i) (hd:dy i.desc=some e) (he:E.ty.get e=some ie) (hv:aF tm a=some v) (h1:dh tm lo=some c1) (h2:dh tm hi=some c2) (h3:dh tm mx=some c3) (hm:D5 c2 c3=true) {new:Nat}:
  opA E (.slice t a lo hi mx) tm hp new=same (yQ v E e c1 c2 c3):=by
 show one tm a (fun v=>nM (dh tm lo) (dh tm hi) (dh tm mx) fun l u m=>same (og E t v l u m))=_
 unfold one;rw[hv,h1,h2,h3];show same (og E t v c1 c2 c3)=_;unfold og;rw[hi'];show same (sel (D5 c2 c3) (RI i.desc E v c1 c2 c3) none)=_;rw[hm,iX hd];show same (ah (E.ty.get e) fun _=>yQ v E e c1 c2 c3)=_
 rw[he];rfl
theorem Xb {id off n l u s':Nat} {c:Cp} {e e':TypeId} {svs:List SV} {rows:List (List AV)} (hF:cN (F id) off (rows.length*s')=some (e',svs)) (hu:∀r∈rows,r.length=s') (hl:off+rows.length*s'≤svs.length) (hq:VAs F .no ((svs.drop off).take (rows.length*s')) rows.flatten) (h1:l≤u) (h2:u≤rows.length) (hc:vf e u c):VA F g (mf id off l u s' c) (.slice e s' ((rows.drop l).take (u-l))):=by
 have hlen:((rows.drop l).take (u-l)).length=u-l:=by rw[List.length_take,List.length_drop];omega
 have hus:∀r∈(rows.drop l).take (u-l),r.length=s':=fun r hr=>hu r (List.mem_of_mem_drop (List.mem_of_mem_take hr))
 have hle:l*s'+(u-l)*s'≤rows.length*s':=by rw[←Nat.add_mul];exact Nat.mul_le_mul_right _ (by omega)
 have hq2:VAs F .no ((svs.drop (off+l*s')).take ((u-l)*s')) ((rows.drop l).take (u-l)).flatten:=by
  have:=(hq.drop (l*s')).take ((u-l)*s');rwa[List.drop_take,List.take_take,List.drop_drop,Nat.min_eq_left (by omega),←Hr hu] at this
 unfold mf;rw[ax,ax];split
 ·rename_i e0;obtain rfl:=(beq_iff _ _).1 e0;exact .slice (lF hF (Nat.le_refl _) (Nat.add_le_add_left (Nat.mul_le_mul_right _ h2) _)) hc (by rw[hlen,Nat.sub_zero]) hus (by rw[Nat.zero_mul] at hle;rw[Nat.sub_zero] at hle;omega) (by simpa using hq2)
 ·rename_i e0;have e0:l≠0:=fun h=>e0 ((beq_iff _ _).2 h)
  split
  ·rename_i hlt;have hlt:l<u:=Nat.le_of_ble_eq_true hlt;refine .slice (lF hF (show off≤off+l*s' from Nat.le_add_right _ _) (show off+l*s'+(u-l)*s'≤off+rows.length*s' by omega)) ?_ (by rw[hlen];rfl) hus (show off+l*s'+(u-l)*s'≤svs.length by omega) hq2
   cases c with
   |k m=>exact (show u-l≤m-l from Nat.sub_le_sub_right hc l)
   |u e'=>exact hc
  ·rename_i hlt;have hul:u=l:=by
    have:¬l<u:=fun hc=>hlt (Nat.ble_eq_true_of_le hc)
    omega
   subst hul;rw[Nat.sub_self,List.take_zero];exact .dy e s'
theorem ok_slice {t:TypeId} {a:Operand} {lo hi:Option Operand} {p:TypeId×TI} {y:AV} {rows R:List (List AV)} {b1 b2:Option Int} {l u:Nat} (hp:iP E t=some p) (ha:aI s.ts a=y) (hy:mP y=some (p.1,p.2.size,rows)) (h1:sV s.ts lo=some b1) (h2:sV s.ts hi=some b2)
  (hb1:b1.getD 0=(l:Int)) (hb2:b2.getD (rows.length:Nat)=(u:Int)) (hlu:l≤u) (hum:u≤rows.length) (hR:(rows.drop l).take (u-l)=R):aN E B (.slice t a lo hi none) s s (.slice p.1 p.2.size R) none:=aN.pure fun {F g φ tm h new} r=>by
 subst hR;obtain ⟨i,hi',he,hie⟩:=jO hp;obtain ⟨v,v1,v2⟩:=r.val ha (fun e=>by subst e;cases hy)
 obtain ⟨c1,d1,d2,d3,d4⟩:=Ai (d:=0) r h1 hb1;obtain ⟨c2,f1,f2,f3,f4⟩:=Ai (d:=rows.length) r h2 hb2;have z1:l=0→eB c1=true:=fun h=>by
  cases c1 with
  |none=>rfl
  |some x=>exact (beq_iff _ _).2 (by have:x=l:=d2;omega)
 have z2:u=0→eB c2=true:=fun h=>by
  cases c2 with
  |none=>rfl
  |some x=>exact (beq_iff _ _).2 (by have:x=u:=f2;omega)
 have go:=fun v (hv:aF tm a=some v)=>Hk (new:=new) (hp:=h.hp.get) (mx:=none) (c3:=none) hi' he hie hv d1 f1 rfl rfl
 rcases sR v2 hy with ⟨rfl,rfl|rfl⟩|⟨id,off,c,e',svs,rfl,hct,hF,hu,hl,hq⟩
 ·have hu0:u=0:=Nat.le_zero.1 hum;have hl0:l=0:=by omega
  refine ⟨.aV,?_,by simpa using VA.jl p.1 p.2.size⟩
  rw[go _ v1];show same (sel (eB c1&&(eB c2&&true)) (some SV.aV) none)=_;rw[z1 hl0,z2 hu0];rfl
 ·have hu0:u=0:=Nat.le_zero.1 hum;have hl0:l=0:=by omega
  refine ⟨.sle,?_,by simpa using VA.dy p.1 p.2.size⟩
  rw[go _ v1];show same (sel (eB c1&&(eB c2&&true)) (some SV.sle) none)=_;rw[z1 hl0,z2 hu0];rfl
 ·have hcu:vf p.1 u c:=by
   cases c with
   |k m=>exact Nat.le_trans hum hct
   |u e'=>exact hct
  refine ⟨mf id off l u p.2.size c,?_,Xb (n:=rows.length) hF hu hl hq hlu hum hcu⟩;rw[go _ v1];show same (jH E p.1 id off rows.length c c1 c2 none)=_;unfold jH;rw[dQ hie,d2,f2];have e1:(tG c p.1&&(Nat.ble l u&&(Nat.ble u (reach c rows.length)&&D4 none u (reach c rows.length))))=true:=by
   have t1:tG c p.1=true:=by
    cases c with
    |k m=>rfl
    |u e'=>exact (beq_iff _ _).2 hct
   have t2:Nat.ble u (reach c rows.length)=true:=Nat.ble_eq_true_of_le (by
    cases c with
    |k m=>exact Nat.le_trans hum hct
    |u e'=>exact hum)
   rw[t1,(aZ _ _).2 hlu,t2];rfl
  rw[e1];rfl
theorem Vj (c:Cp) (a b:Nat):jT (jT c a) b=jT c (a+b):=by
 cases c with
 |k m=>exact congrArg Cp.k (Nat.sub_sub m a b)
 |u e=>rfl
theorem Lb {t:TypeId} {a:Operand} {lo hi:Option Operand} {p:TypeId×TI} {K lo0 n:Nat} {z:Bool} {Q:List (List AV)} {b1 b2:Option Int} {l u:Nat} (hp:iP E t=some p) (ha:aI s.ts a= .ms K p.2.size lo0 n) (hb:lk K s.bs=some (.rows z p.1 p.2.size Q)) (h1:sV s.ts lo=some b1) (h2:sV s.ts hi=some b2)
  (hb1:b1.getD 0=(l:Int)) (hb2:b2.getD (n:Nat)=(u:Int)) (hlu:l≤u) (hum:u≤n) (hn:lo0+n≤Q.length):aN E B (.slice t a lo hi none) s s (.ms K p.2.size (lo0+l) (u-l)) none:=aN.pure fun {F g φ tm h new} r=>by
 obtain ⟨i,hi',he,hie⟩:=jO hp;obtain ⟨v,v1,v2⟩:=r.val ha (by simp)
 obtain ⟨c1,d1,d2,d3,d4⟩:=Ai (d:=0) r h1 hb1;obtain ⟨c2,f1,f2,f3,f4⟩:=Ai (d:=n) r h2 hb2;have z1:l=0→eB c1=true:=fun h=>by
  cases c1 with
  |none=>rfl
  |some x=>exact (beq_iff _ _).2 (by have:x=l:=d2;omega)
 have z2:u=0→eB c2=true:=fun h=>by
  cases c2 with
  |none=>rfl
  |some x=>exact (beq_iff _ _).2 (by have:x=u:=f2;omega)
 have go:=fun v (hv:aF tm a=some v)=>Hk (new:=new) (hp:=h.hp.get) (mx:=none) (c3:=none) hi' he hie hv d1 f1 rfl rfl
 cases v2 with
 |msN _ hb0=>
  have hu0:u=0:=Nat.le_zero.1 hum;have hl0:l=0:=by omega
  subst hu0;subst hl0;refine ⟨.aV,?_,.msN _ hb0⟩;rw[go _ v1];show same (sel (eB c1&&(eB c2&&true)) (some SV.aV) none)=_;rw[z1 rfl,z2 rfl];rfl
 |msE _ _ h0=>
  have hu0:u=0:=Nat.le_zero.1 hum;have hl0:l=0:=by omega
  subst hu0;subst hl0;refine ⟨.sle,?_,.msE _ _ h0⟩;rw[go _ v1];show same (sel (eB c1&&(eB c2&&true)) (some SV.sle) none)=_;rw[z1 rfl,z2 rfl];rfl
 |ms _ _ _ hb0=>
  have q:=r.bx K _ hb;generalize φ K=fp at q;cases q with
  |cW hb1=>rw[hb0] at hb1;cases hb1
  | @rows _ _ _ _ svs hb' hh hz hu hc q=>
  have eT:vf p.1 n (jT (g.κ K) lo0):=by
   cases hκ:g.κ K with
   |k m=>rw[hκ] at hc;have:=hc.1;exact (show n≤m-lo0 by omega)
   |u e'=>rw[hκ] at hc;exact hc.1
  refine ⟨mf (g.ρ K) (lo0*p.2.size) l u p.2.size (jT (g.κ K) lo0),?_,?_⟩
  ·rw[go _ v1];show same (jH E p.1 (g.ρ K) (lo0*p.2.size) n (jT (g.κ K) lo0) c1 c2 none)=_;unfold jH;rw[dQ hie,d2,f2];generalize jT (g.κ K) lo0=c at eT;have e1:(tG c p.1&&(Nat.ble l u&&(Nat.ble u (reach c n)&&D4 none u (reach c n))))=true:=by
    have t1:tG c p.1=true:=by
     cases c with
     |k m=>rfl
     |u e'=>exact (beq_iff _ _).2 eT
    have t2:Nat.ble u (reach c n)=true:=Nat.ble_eq_true_of_le (by
     cases c with
     |k m=>exact Nat.le_trans hum eT
     |u e'=>exact hum)
    rw[t1,(aZ _ _).2 hlu,t2];rfl
   rw[e1];rfl
  ·unfold mf;rw[ax,ax];split
   ·rename_i e0;obtain rfl:=(beq_iff _ _).1 e0;rw[Nat.add_zero,Nat.sub_zero];exact .ms _ lo0 u hb0
   ·rename_i e0;have e0:l≠0:=fun h=>e0 ((beq_iff _ _).2 h)
    split
    ·rw[Vj];rw[show Nat.add (lo0*p.2.size) (Nat.mul l p.2.size)=(lo0+l)*p.2.size from (Nat.add_mul _ _ _).symm];exact .ms _ (lo0+l) (u-l) hb0
    ·rename_i hlt;have hul:u=l:=by
      have:¬l<u:=fun hc=>hlt (Nat.ble_eq_true_of_le hc)
      omega
     subst hul;rw[Nat.sub_self];exact .msE _ _ (by omega)
theorem Vu {P:Program} {t:TypeId} {k:IntKind} {m n:Int} (hn:n≠0):cz P (binOp .rem t (.int k m) (.int k n))=some (.int k (m.tmod n)):=by
 have:binOp .rem t (.int k m) (.int k n)=Sem.pure (.int k (m.tmod n)):=by
  simp[binOp,Op.intDiv,hn,pure]
 rw[this];rfl
theorem Vy {P:Program} {t:TypeId} {k:IntKind} {m n:Int} (hn:n≠0):cz P (binOp .quo t (.int k m) (.int k n))=some (.int k (k.wrap (m.tdiv n))):=by
 have:binOp .quo t (.int k m) (.int k n)=Sem.pure (.int k (k.wrap (m.tdiv n))):=by
  simp[binOp,Op.intDiv,hn,pure]
 rw[this];rfl
def divL (op:BinOp) (k:IntKind) (m n:Int):Option AV:=
 match op with
 | .rem=>some (.int k (m.tmod n))
 | .quo=>some (.int k (k.wrap (m.tdiv n)))
 |_=>none
theorem abD {op:BinOp} {t t2:TypeId} {a b:Operand} {k k':IntKind} {m n:Int} {x:AV} (ha:aI s.ts a= .int k m) (hb:aI s.ts b= .int k' n) (hk:bP k k'=true) (hn:n≠0) (hx:divL op k m n=some x):aN E B (.binOp op t a b t2) s s x none:=aN.bi (f:=fun _ v u=>same (qF E op t a b v u)) (fun _ _ _=>rfl) ha (by simp) hb (by simp) fun {F g φ tm h v w} r hv hw=>by
 have ek:k=k':=by cases k<;>cases k'<;>first|rfl|(cases hk;done)
 subst ek;cases hv;cases hw;cases op<;>first|(cases hx;done)|skip
 ·cases hx;refine ⟨.int k (.lit (k.wrap (m.tdiv n))),?_,.int _ _⟩;show same (eU (cz E.P (binOp .quo t (.int k m) (.int k n))))=_;rw[Vy hn];rfl
 ·cases hx;refine ⟨.int k (.lit (m.tmod n)),?_,.int _ _⟩;show same (eU (cz E.P (binOp .rem t (.int k m) (.int k n))))=_;rw[Vu hn];rfl
theorem Xg {P:Program} {t:TypeId} {a b:ByteArray} (hn:a.size+b.size≤1000000):cz P (binOp .add t (.string a) (.string b))=some (.string (a++b)):=by
 have h1:¬(((a.size+b.size:Nat):Int)>IntKind.i64.max):=by
  have:IntKind.i64.max=9223372036854775807:=by decide
  omega
 have:binOp .add t (.string a) (.string b)=Sem.pure (.string (a++b)):=by
  show Op.stringOp .add a b=_;unfold Op.stringOp;simp only[];rw[if_neg h1];rfl
 rw[this];rfl
theorem abE {t t2:TypeId} {a b:Operand} {x y:ByteArray} (ha:aI s.ts a= .str x) (hb:aI s.ts b= .str y) (hn:x.size+y.size≤1000000):aN E B (.binOp .add t a b t2) s s (.str (x++y)) none:=aN.bi (f:=fun _ v u=>same (qF E .add t a b v u)) (fun _ _ _=>rfl) ha (by simp) hb (by simp) fun {F g φ tm h v w} r hv hw=>by
 cases hv;cases hw;refine ⟨.str (x++y),?_,.str _⟩;show same (eU (cz E.P (binOp .add t (.string x) (.string y))))=_;rw[Xg hn];rfl
theorem Lf {t:TypeId} {a ix:Operand} {i:TI} {b:ByteArray} {k:IntKind} {n:Int} {c:UInt8} (hi:E.ty.get t=some i) (hd:mJ i.desc=true) (ha:aI s.ts a= .str b) (hix:aI s.ts ix= .int k n) (hc:jv b.data.toList n=some c):aN E B (.index t a ix) s s (.int .u8 (c.toNat:Int)) none:=aN.bi (f:=fun _ v u=>ah (eG u) fun k=>lW E t k v) (fun _ _ _=>rfl) ha (by simp) hix (by simp) fun {F g φ tm h v w} r hv hw=>by
 obtain ⟨j,hj,hc2⟩:=xg hc;subst hj;cases hv;cases hw;refine ⟨_,?_,.int _ _⟩;show lW E t j (.str b)=_;unfold lW;rw[dQ hi];generalize i.desc=d at hd;cases d<;>first|(cases hd;done)|skip
 show ah (b.data.toList[j]?) (fun b=>some (SV.int .u8 (.lit (.ofNat b.toNat)),([]:List Up)))=_
 rw[dQ hc2];rfl
end Go.Sim
end
noncomputable section
namespace Go.Sim
variable {F F':Hf} {g g':Gb} {B:Bs} {φ:Nat→List Nat} {s s' s1:LS} {tm:Tf} {h:Hs} {hp:Hf} {E:Env} {nt:Nat} {all l:List Oper}
theorem aaf {it:Operand} {K pos:Nat} {b:ByteArray} (ha:aI s.ts it= .it K) (hb:lk K s.bs=some (.iter b pos)) (hlt:pos<b.size):aN E B (.next it true) s (s.set K (.iter b (pos+(Utf8.decode b pos).2))) (.tup [.bool true,.int .i64 (pos:Int),.int .i32 (Utf8.decode b pos).1]) (some (K,false)):=aN.wr hb fun {F g φ tm h new} r=>by
 obtain ⟨v,v1,v2⟩:=r.val ha (by simp)
 cases v2;have q:=r.bx K _ hb;generalize φ K=fp at q ⊢;cases q with
 |iter hh=>
 refine ⟨.tup [.bool true,jW pos,.int .i32 (.lit (Utf8.decode b pos).1)],.fj b (pos+(Utf8.decode b pos).2),?_,.tup (.cons (.bool _) (.cons (.int _ _) (.cons (.int _ _) .nil))),rfl,fun hp' hh'=>.iter hh'⟩
 show one tm it (lp h.hp.get true)=_;unfold one;rw[v1];show ah (kN (.ptr (g.ρ K) 0)) (fun id=>ah (pR (h.hp.get id)) fun p=>some (gP id p))=_
 show ah (pR (h.hp.get (g.ρ K))) (fun p=>some (gP (g.ρ K) p))=_
 rw[hh];show some (gP (g.ρ K) (b,pos))=_;unfold gP;rw[show Nat.ble (Nat.succ pos) b.size=true from Nat.ble_eq_true_of_le hlt];rfl
theorem NL {it:Operand} {K pos:Nat} {b:ByteArray} (ha:aI s.ts it= .it K) (hb:lk K s.bs=some (.iter b pos)) (hlt:¬pos<b.size):aN E B (.next it true) s s (.tup [.bool false]) none:=aN.pure fun {F g φ tm h new} r=>by
 obtain ⟨v,v1,v2⟩:=r.val ha (by simp)
 cases v2;have q:=r.bx K _ hb;generalize φ K=fp at q;cases q with
 |iter hh=>
 refine ⟨.tup [.bool false],?_,.tup (.cons (.bool _) .nil)⟩;show one tm it (lp h.hp.get true)=_;unfold one;rw[v1];show ah (pR (h.hp.get (g.ρ K))) (fun p=>some (gP (g.ρ K) p))=_
 rw[hh];show some (gP (g.ρ K) (b,pos))=_;unfold gP;have:Nat.ble (Nat.succ pos) b.size=false:=by
  cases hx:Nat.ble (Nat.succ pos) b.size with
  |false=>rfl
  |true=>exact absurd (Nat.le_of_ble_eq_true hx) hlt
 rw[this]
def zw:AV→AV→Option Bool
 | .str a,.str b=>some (decide (a=b))
 | .bool a,.bool b=>some (a==b)
 | .int k a,.int k' b=>sel (bP k k') (some (decide (a=b))) none
 |_,_=>none
def Ii:AV→UD→Bool
 | .str _,d=>mJ d
 | .bool _,d=>vK d
 | .int k _,d=>Oz k d
 |_,_=>false
def gJ (k:AV):List (AV×AV)→Option (Option (Nat×AV))
 | []=>some none
 |e::es=>
  match zw k e.1 with
  |some true=>some (some (0,e.2))
  |some false=>(match gJ k es with|some (some p)=>some (some (p.1+1,p.2))|r=>r)
  |none=>none
theorem N6 {a b:IntKind} (h:bP a b=true):a=b:=by cases a<;>cases b<;>first|rfl|(cases h;done)
theorem V6 {k x:AV} {u v:SV} {b:Bool} (hu:VA F g u k) (hv:VA F g' v x) (hb:zw k x=some b):sameKey u v=some b:=by
 unfold zw at hb;split at hb
 ·cases hb;cases hu;cases hv;show some (od _ _)=_;rw[jG]
 ·cases hb;cases hu;cases hv;rfl
 ·obtain ⟨hk,hb⟩:=an hb;cases hb;cases hu;cases hv;show sel (bP _ _) (some (qt _ _)) none=_;rw[hk,kV]
 ·cases hb
theorem ME {k:AV} {u:SV} {d:UD} (hu:VA F g u k) (hd:Ii k d=true):qZ u d=true:=by
 cases k<;>first|(cases hd;done)|skip
 ·cases hu;exact hd
 ·cases hu;exact (show (true&&Oz _ d)=true by rw[Bool.true_and];exact hd)
 ·cases hu;exact hd
theorem Cu {k:AV} {u:SV} (hu:VA F g u k):∀{es:List (AV×AV)} {ms:List (SV×SV×Nat)} (j:Nat),VAs F .no (ms.map (·.1)) (es.map (·.1))→VAs F .no (ms.map (·.2.1)) (es.map (·.2))→
  (gJ k es=some none→gK u ms j=some none)∧∀i x,gJ k es=some (some (i,x))→∃v c,gK u ms j=some (some (j+i,v,c))∧VA F .no v x∧es[i]? =some (k,x)∧i<ms.length
 | [],[],j,_,_=>⟨fun _=>rfl,fun i x h=>by cases h⟩
 | [],m::ms,j,h,_=>by cases h
 |e::es,[],j,h,_=>by cases h
 |e::es,m::ms,j,h1,h2=>by
  cases h1 with|cons a1 t1=>
  cases h2 with|cons a2 t2=>
  obtain ⟨i1,i2⟩:=Cu hu (es:=es) (ms:=ms) (Nat.add j 1) t1 t2;have step:∀b,zw k e.1=some b→sameKey u m.1=some b:=fun b hb=>V6 hu a1 hb
  constructor
  ·intro hf;unfold gJ at hf;unfold gK;split at hf
   ·cases hf
   ·rename_i hk;rw[step _ hk];show gK u ms (Nat.add j 1)=_;split at hf
    ·cases hf
    ·exact i1 hf
   ·cases hf
  ·intro i x hf;unfold gJ at hf;unfold gK;split at hf
   ·rename_i hk;cases hf;rw[step _ hk];refine ⟨m.2.1,m.2.2,rfl,a2,?_,by simp⟩
    have:k=e.1:=by
     unfold zw at hk;split at hk
     ·simp at hk;subst hk;symm;assumption
     ·simp at hk;subst hk;symm;assumption
     ·obtain ⟨hkk,hk⟩:=an hk;have hab:=of_decide_eq_true (Option.some.inj hk);have hkb:=N6 hkk;subst hab;subst hkb;symm;assumption
     ·cases hk
    simp[this]
   ·rename_i hk;rw[step _ hk];show ∃v c,gK u ms (Nat.add j 1)=_∧_;split at hf
    ·rename_i p hp;cases hf;obtain ⟨v,c,b1,b2,b3,b4⟩:=i2 p.1 p.2 hp;refine ⟨v,c,?_,b2,by simpa using b3,by simpa using b4⟩
     rw[b1,show Nat.add j 1+p.1=j+(p.1+1) from by show j+1+p.1=_;omega]
    ·rename_i hne;exact absurd hf (hne _)
   ·cases hf
def H8 (E:Env) (t:TypeId):Option (TI×TI):=ah (E.ty.get t) fun i=>ah (oB i.desc) fun q=>aE (E.ty.get q.1) (E.ty.get q.2) fun a b=>some (a,b)
theorem C7 {t:TypeId} {p:TI×TI} (h:H8 E t=some p):∃i q,E.ty.get t=some i∧oB i.desc=some q∧E.ty.get q.1=some p.1∧E.ty.get q.2=some p.2:=by
 obtain ⟨i,hi,h⟩:=I h;obtain ⟨q,hq,h⟩:=I h;obtain ⟨a,b,h1,h2,h⟩:=av h;cases h;exact ⟨i,q,hi,hq,h1,h2⟩
def okM (ok:Bool) (v:AV) (b:Bool):AV:=sel ok (.tup [v,.bool b]) v
theorem Ty {ok b:Bool} {v:SV} {x:AV} (h:VA F g v x):VA F g (okV ok v b) (okM ok x b):=by
 cases ok
 ·exact h
 ·exact .tup (.cons h (.cons (.bool b) .nil))
def uG (ok:Bool) (z:Option AV):Option (Nat×AV)→Option AV
 |some r=>some (okM ok r.2 true)
 |none=>ah z fun z=>some (okM ok z false)
theorem Tv {t:TypeId} {a c:Operand} {ok:Bool} {p:TI×TI} {K:Nat} {es:List (AV×AV)} {k x:AV} {f:Option (Nat×AV)} (hp:H8 E t=some p) (ha:aI s.ts a= .mp K) (hc:aI s.ts c=k) (hk:Ii k p.1.desc=true) (hb:lk K s.bs=some (.map es)) (hf:gJ k es=some f) (hx:uG ok (gH p.2 (dU p.2.zero) 0) f=some x) (hkx:(bU x).isEmpty=true):aN E B (.lookup t a c ok) s s x none:=aN.bi (f:=fun hp a b=>same (iZ E hp t a b ok)) (fun _ _ _=>rfl) ha (by simp) hc (fun e=>by subst e;cases hk) fun {F g φ tm h v w} r hv hw=>by
 obtain ⟨i,q,hi,hq,h1,h2⟩:=C7 hp;cases hv;have q0:=r.bx K _ hb;generalize φ K=fp at q0;cases q0 with
 | @map _ ms cl hh hks hvs=>
 obtain ⟨m1,m2⟩:=Cu hw 0 hks hvs;have key:∃r,gK w ms 0=some r∧∃u,uF ok (cL p.2 p.2.zero 0) r=some u∧VA F g u x:=by
  cases f with
  |none=>
   obtain ⟨z,hz,hx⟩:=I hx;cases hx;obtain ⟨u,u1,u2⟩:=kS (jk (F:=F) (g:=.no) p.2.zero) hz;exact ⟨none,m1 hf,okV ok u false,by show ah (cL p.2 p.2.zero 0) (fun z=>some (okV ok z false))=_;rw[u1];rfl,(Ty u2).gp hkx⟩
  |some r=>
   cases hx;obtain ⟨v,c,b1,b2,_,_⟩:=m2 r.1 r.2 hf;exact ⟨_,b1,okV ok v true,rfl,(Ty b2).gp hkx⟩
 obtain ⟨r',k1,u,u1,u2⟩:=key;refine ⟨u,?_,u2⟩;show same (iZ E h.hp.get t (.mp (g.ρ K)) w ok)=_;unfold iZ;rw[dQ hi,dQ hq,oZ h1 h2,ME hw hk];show same (ah (ah (ic (h.hp.get (g.ρ K))) fun p=>some p.1) fun es=>ah (gK w es 0) fun r=>uF ok (cL p.2 p.2.zero 0) r)=_
 rw[hh];show same (ah (gK w ms 0) fun r=>uF ok (cL p.2 p.2.zero 0) r)=_
 rw[k1];show same (uF ok (cL p.2 p.2.zero 0) r')=_;rw[u1];rfl
def Bg (es:List (AV×AV)) (k v:AV):Option (Nat×AV)→List (AV×AV)
 |some r=>es.set r.1 (k,v)
 |none=>es++ [(k,v)]
theorem VAs.set:∀{vs xs} {i:Nat} {v:SV} {x:AV},VAs F g vs xs→VA F g v x→VAs F g (vs.set i v) (xs.set i x)
 |_,_,_,_,_,.nil,_=>.nil
 |_,_,0,_,_,.cons _ t,k=>.cons k t
 |_,_,i+1,_,_,.cons h t,k=>.cons h (t.set k)
theorem Tt {op:Op} {t:TypeId} {a c d:Operand} {p:TI×TI} {K:Nat} {es:List (AV×AV)} {k x:AV} {f:Option (Nat×AV)} (hop:∀tm hp new,opA E op tm hp new=two tm a c fun a b=>one tm d fun c=>unit (ky E hp t a b c)) (hp:H8 E t=some p) (ha:aI s.ts a= .mp K) (hc:aI s.ts c=k) (hk:Ii k p.1.desc=true) (hd:aI s.ts d=x) (hx:x≠ .undef) (hkx:(bU x).isEmpty=true) (hb:lk K s.bs=some (.map es)) (hf:gJ k es=some f):
  aN E B op s (s.set K (.map (Bg es k x f))) (.tup []) (some (K,false)):=aN.wr hb fun {F g φ tm h new} r=>by
 obtain ⟨i,q,hi,hq,h1,h2⟩:=C7 hp;obtain ⟨v,v1,v2⟩:=r.val ha (by simp)
 obtain ⟨w,w1,w2⟩:=r.val hc (fun e=>by subst e;cases hk)
 obtain ⟨u,u1,u2⟩:=r.val hd hx;cases v2;have hkk:(bU k).isEmpty=true:=by cases k<;>first|(cases hk;done)|rfl
 have q0:=r.bx K _ hb;generalize φ K=fp at q0 ⊢;cases q0 with
 | @map _ ms cl hh hks hvs=>
 obtain ⟨m1,m2⟩:=Cu w2 0 hks hvs;have key:∃r,gK w ms 0=some r∧∃ms' cl',Bh ms cl w u r= .map ms' cl'∧VAs F .no (ms'.map (·.1)) ((Bg es k x f).map (·.1))∧VAs F .no (ms'.map (·.2.1)) ((Bg es k x f).map (·.2)):=by
  cases f with
  |none=>
   refine ⟨none,m1 hf,ms++ [(w,u,cl)],Nat.add cl 1,rfl,?_,?_⟩
   ·show VAs F .no ((ms++ [(w,u,cl)]).map (·.1)) ((es++ [(k,x)]).map (·.1))
    rw[List.map_append,List.map_append];exact hks.append (.cons (w2.gp hkk) .nil)
   ·show VAs F .no ((ms++ [(w,u,cl)]).map (·.2.1)) ((es++ [(k,x)]).map (·.2))
    rw[List.map_append,List.map_append];exact hvs.append (.cons (u2.gp hkx) .nil)
  |some r=>
   obtain ⟨v,c,b1,b2,b3,b4⟩:=m2 r.1 r.2 hf;refine ⟨_,b1,ms.set (0+r.1) (w,u,c),cl,rfl,?_,?_⟩
   ·show VAs F .no ((ms.set (0+r.1) (w,u,c)).map (·.1)) ((es.set r.1 (k,x)).map (·.1))
    rw[List.map_set,List.map_set,Nat.zero_add];exact hks.set (w2.gp hkk)
   ·show VAs F .no ((ms.set (0+r.1) (w,u,c)).map (·.2.1)) ((es.set r.1 (k,x)).map (·.2))
    rw[List.map_set,List.map_set,Nat.zero_add];exact hvs.set (u2.gp hkx)
 obtain ⟨r',k1,ms',cl',k2,k3,k4⟩:=key;refine ⟨.tup [],.map ms' cl',?_,.tup .nil,rfl,fun hp' hh'=>.map hh' k3 k4⟩
 rw[hop];unfold two one;rw[v1,w1];show ah (aF tm d) (fun c=>unit (ky E h.hp.get t (.mp (g.ρ K)) w c))=_
 rw[u1];show unit (ky E h.hp.get t (.mp (g.ρ K)) w u)=_;have e1:ky E h.hp.get t (.mp (g.ρ K)) w u=some [(g.ρ K,some (.map ms' cl'))]:=by
  show ah (E.ty.get t) (fun i=>ah (oB i.desc) fun q=>aE (E.ty.get q.1) (ic (h.hp.get (g.ρ K))) fun ik p=>sel (qZ w ik.desc) (ah (gK w p.1 0) fun r=>some [(g.ρ K,some (Bh p.1 p.2 w u r))]) none)=_
  rw[dQ hi,dQ hq,hh];show aE (E.ty.get q.1) (some (ms,cl)) (fun ik p=>sel (qZ w ik.desc) (ah (gK w p.1 0) fun r=>some [(g.ρ K,some (Bh p.1 p.2 w u r))]) none)=_
  rw[oZ h1 rfl,ME w2 hk];show ah (gK w ms 0) (fun r=>some [(g.ρ K,some (Bh ms cl w u r))])=_
  rw[k1];show some [(g.ρ K,some (Bh ms cl w u r'))]=_;rw[k2]
 rw[e1];rfl
end Go.Sim
end
noncomputable section
namespace Go.Sim
variable {F F':Hf} {g g':Gb} {B:Bs} {φ:Nat→List Nat} {s s' s1:LS} {tm:Tf} {h:Hs} {hp:Hf} {E:Env} {nt:Nat} {all l:List Oper}
def I5 (F:Hf) (g:Gb) (φ:Nat→List Nat) (bs:List (Nat×Bx)) (h:Hs):Bs:=⟨h.hp.get,F,g,h.nx,fun k=>(lk k bs).isSome,φ⟩
def Ent (F:Hf) (g:Gb) (φ:Nat→List Nat) (bs:List (Nat×Bx)) (h:Hs):Prop:=Rel (I5 F g φ bs h) F g φ ⟨[],bs⟩ (fun _=>none) ⟨h.hp,h.nx,[]⟩
structure bR (E:Env) (f:Nat) (bs:List (Nat×Bx)) (xs:List AV) (y:AV) (bs':List (Nat×Bx)):Prop where
 go:∀{F:Hf} {g:Gb} {φ:Nat→List Nat} {h:Hs} {as:List SV},Ent F g φ bs h→VAs F g as xs→∃(F':Hf) (g':Gb) (φ':Nat→List Nat) (h1:Hs) (v:SV),bt E (.call (.fn (.func f) [] []) as h) (.bI [⟨false,v,⟨h1.hp,h1.nx,below h.nx h1.lg h.lg⟩⟩])∧VA F' g' v y∧Rel (I5 F g φ bs h) F' g' φ' ⟨[],bs'⟩ (fun _=>none) h1
abbrev bq:=List (Nat×Nat)
def jh (al:bq):bq:=al.map fun q=>(q.2,q.1)
def fiP (al:bq) (K:Nat):Nat:= @Option.rec Nat (fun _=>Nat) K (fun k=>k) (lk K al)
def foP (al:bq) (k:Nat):Nat:=fiP (jh al) k
def IK (l:bq) (K:Nat):Bool:= @Option.rec Nat (fun _=>Bool) false (fun _=>true) (lk K l)
def er (l:bq) (ks:List Nat):Bool:=ks.all (IK l)
def nE (al:bq):Bool:=al.all fun q=>Nat.beq (fiP al q.1) q.2&&(IK al q.1&&(Nat.beq (foP al q.2) q.1&&IK (jh al) q.2))
def nq (bs:List (Nat×Bx)) (al:bq):bq→Option (List (Nat×Bx))
 | []=>some []
 |q::l=>aE (lk q.1 bs) (nq bs al l) fun b r=>some ((q.2,b.ren (fiP al))::r)
def r7 (bs':List (Nat×Bx)) (al:bq):bq→Option (List (Nat×Bx))
 | []=>some []
 |q::l=>aE (lk q.2 bs') (r7 bs' al l) fun b r=>some ((q.1,b.ren (foP al))::r)
def nw (bs:List (Nat×Bx)) (ps:bq):bq→Bool
 | []=>true
 |q::l=>(match lk q.1 bs with|some b=>er ps b.keys|none=>false)&&nw bs ps l
def nu (bs':List (Nat×Bx)) (al:bq):bq→Bool
 | []=>true
 |q::l=>(match lk q.2 bs' with|some b=>er (jh al) b.keys|none=>false)&&nu bs' al l
theorem oL {l:bq} {K:Nat} (h:IK l K=true):∃k,lk K l=some k:=by
 unfold IK at h;cases hl:lk K l with
 |none=>rw[hl] at h;cases h
 |some k=>exact ⟨k,rfl⟩
theorem mN {l:bq} {K k:Nat} (h:lk K l=some k):fiP l K=k:=by unfold fiP;rw[h]
theorem aao {al:bq} {K k:Nat} (hg:nE al=true) (h:lk K al=some k):lk k (jh al)=some K:=by
 have:=(List.all_eq_true.1 hg) (K,k) (mI h);rw[Bool.and_eq_true,Bool.and_eq_true,Bool.and_eq_true] at this;obtain ⟨_,_,h3,h4⟩:=this;obtain ⟨j,hj⟩:=oL h4;have:foP al k=j:=mN hj;rw[hj,←this];exact congrArg some ((beq_iff _ _).1 h3)
theorem TE {al:bq} {K k:Nat} (hg:nE al=true) (h:lk k (jh al)=some K):lk K al=some k:=by
 obtain ⟨q,hq,he⟩:=List.mem_map.1 (mI h);have:=(List.all_eq_true.1 hg) q hq;rw[Bool.and_eq_true,Bool.and_eq_true,Bool.and_eq_true] at this;obtain ⟨h1,h2,_,_⟩:=this;cases he;obtain ⟨j,hj⟩:=oL h2;have:fiP al q.1=j:=mN hj;rw[hj,←this];exact congrArg some ((beq_iff _ _).1 h1)
theorem uj {α:Type} (t:Nat) (b:List (Nat×α)):∀a:List (Nat×α),lk t (a++b)=(lk t a).or (lk t b)
 | []=>rfl
 |(k,x)::a=>by
  rw[List.cons_append,bh,bh];split
  ·rfl
  ·exact uj t b a
theorem L5 {bs:List (Nat×Bx)} {al:bq}:∀{l:bq} {r:List (Nat×Bx)} {k:Nat} {b':Bx},nq bs al l=some r→lk k r=some b'→∃K b,(K,k)∈l∧lk K bs=some b∧b'=b.ren (fiP al)
 | [],r,k,b',h,hk=>by cases h;cases hk
 |q::l,r,k,b',h,hk=>by
  obtain ⟨b,r',h1,h2,h3⟩:=av h;cases h3;rw[bh] at hk;split at hk
  ·rename_i e;cases hk;exact ⟨q.1,b,by rw[e];exact List.mem_cons_self,h1,rfl⟩
  ·obtain ⟨K,b0,m1,m2,m3⟩:=L5 h2 hk;exact ⟨K,b0,List.mem_cons_of_mem _ m1,m2,m3⟩
theorem HJ {bs:List (Nat×Bx)} {al:bq}:∀{l:bq} {r:List (Nat×Bx)} {K k:Nat},nq bs al l=some r→(K,k)∈l→∃b,lk k r=some b
 | [],r,K,k,h,hk=>by cases hk
 |q::l,r,K,k,h,hk=>by
  obtain ⟨b,r',h1,h2,h3⟩:=av h;cases h3;rw[bh];split
  ·exact ⟨_,rfl⟩
  ·rename_i e;rcases List.mem_cons.1 hk with rfl|hk
   ·exact absurd rfl e
   ·exact HJ h2 hk
theorem Tm {bs':List (Nat×Bx)} {al:bq}:∀{l:bq} {r:List (Nat×Bx)} {K:Nat} {b':Bx},r7 bs' al l=some r→lk K r=some b'→∃k b,(K,k)∈l∧lk k bs'=some b∧b'=b.ren (foP al)
 | [],r,K,b',h,hk=>by cases h;cases hk
 |q::l,r,K,b',h,hk=>by
  obtain ⟨b,r',h1,h2,h3⟩:=av h;cases h3;rw[bh] at hk;split at hk
  ·rename_i e;cases hk;exact ⟨q.2,b,by rw[e];exact List.mem_cons_self,h1,rfl⟩
  ·obtain ⟨k,b0,m1,m2,m3⟩:=Tm h2 hk;exact ⟨k,b0,List.mem_cons_of_mem _ m1,m2,m3⟩
theorem HL {bs':List (Nat×Bx)} {al:bq}:∀{l:bq} {r:List (Nat×Bx)} {K:Nat},r7 bs' al l=some r→lk K r=none→lk K l=none
 | [],r,K,h,hk=>rfl
 |q::l,r,K,h,hk=>by
  obtain ⟨b,r',h1,h2,h3⟩:=av h;cases h3;rw[bh] at hk;rw[show q::l=(q.1,q.2)::l from rfl,bh];split at hk
  ·cases hk
  ·rename_i e;rw[if_neg e];exact HL h2 hk
theorem Dd {bs:List (Nat×Bx)} {ps:bq}:∀{l:bq} {K k:Nat} {b:Bx},nw bs ps l=true→(K,k)∈l→lk K bs=some b→er ps b.keys=true
 |q::l,K,k,b,h,hm,hb=>by
  have h:=Bool.and_eq_true_iff.1 (show ((match lk q.1 bs with|some b=>er ps b.keys|none=>false)&&nw bs ps l)=true from h)
  rcases List.mem_cons.1 hm with rfl|hm
  ·have:=h.1;rw[hb] at this;exact this
  ·exact Dd h.2 hm hb
theorem Dc {bs':List (Nat×Bx)} {al:bq}:∀{l:bq} {K k:Nat} {b:Bx},nu bs' al l=true→(K,k)∈l→lk k bs'=some b→er (jh al) b.keys=true
 |q::l,K,k,b,h,hm,hb=>by
  have h:=Bool.and_eq_true_iff.1 (show ((match lk q.2 bs' with|some b=>er (jh al) b.keys|none=>false)&&nu bs' al l)=true from h)
  rcases List.mem_cons.1 hm with rfl|hm
  ·have:=h.1;rw[hb] at this;exact this
  ·exact Dc h.2 hm hb
theorem eH {al:bq} (hg:nE al=true) {K k:Nat} (h:(K,k)∈al):lk K al=some k:=by
 have:=(List.all_eq_true.1 hg) (K,k) h;rw[Bool.and_eq_true,Bool.and_eq_true,Bool.and_eq_true] at this;obtain ⟨h1,h2,_,_⟩:=this;obtain ⟨j,hj⟩:=oL h2;have:fiP al K=j:=mN hj;rw[hj,←this];exact congrArg some ((beq_iff _ _).1 h1)
theorem Rel.call (r : Rel B F g φ s tm h) {ps rs : bq} {bs bs' ob : List (Nat × Bx)} {xs : List AV} {y : AV} {as : List SV} {f : Nat} {hh : Hs} {Hd : Nat → Prop} (hh0 : ∀ x, ¬ Hd x → hh.hp.get x = h.hp.get x) (hh1 : ∀ x, Hd x → hh.hp.get x = none ∧ F x = none ∧ x < h.nx ∧ ∀ K k b, (K, k) ∈ ps → lk K s.bs = some b → x ∉ φ K) (hhx : hh.nx = h.nx) (hg : nE (ps ++ rs) = true) (hps : nq s.bs (ps ++ rs) ps = some bs) (hkb : nw s.bs ps ps = true) (hkx : er ps (cE xs) = true) (has : VAs F g as xs)
    (hrs : ∀ q ∈ rs, s.free q.1 ∧ B.pk q.1 = false ∧ lk q.1 s.bs = none) (hc : bR E f bs (gG (fiP (ps ++ rs)) xs) y bs') (hob : r7 bs' (ps ++ rs) (ps ++ rs) = some ob) (hko : nu bs' (ps ++ rs) (ps ++ rs) = true) (hky : er (jh (ps ++ rs)) (bU y) = true) :
    ∃ (F' : Hf) (g' : Gb) (φ' : Nat → List Nat) (h1 : Hs) (v : SV), bt E (.call (.fn (.func f) [] []) as hh) (.bI [⟨false, v, ⟨h1.hp, h1.nx, below hh.nx h1.lg hh.lg⟩⟩]) ∧ VA F' g' v (jV (foP (ps ++ rs)) y) ∧
      (∀ h', (∀ x, ¬ Hd x → h'.hp.get x = h1.hp.get x) → (∀ x, Hd x → h'.hp.get x = h.hp.get x) → h'.nx = h1.nx → (∀ x ∈ h'.lg, x ∈ h.lg ∨ (x ∈ h1.lg ∧ x < h.nx)) → Rel B F' g' φ' ⟨s.ts, ob ++ s.bs⟩ tm h') ∧
      Hle F F' ∧ (∀ id o, F' id = some o → F id = some o ∨ h.nx ≤ id) ∧ h.nx ≤ h1.nx ∧ (∀ x ∈ h1.lg, x < h.nx → ∃ K k b, (K, k) ∈ ps ∧ lk K s.bs = some b ∧ x ∈ φ K) ∧
      (∀ k b, lk k (ob ++ s.bs) = some b → ∀ i ∈ φ' k, (i < h.nx ∧ ∃ b, lk k s.bs = some b ∧ i ∈ φ k) ∨ h.nx ≤ i) ∧ (∀ ks : List Nat, (∀ q ∈ rs, q.1 ∉ ks) → gL g g' ks) ∧ (∀ K, lk K (ps ++ rs) = none → φ' K = φ K) ∧
      ∀ x, x < h.nx → (∀ K k b, (K, k) ∈ ps → lk K s.bs = some b → x ∉ φ K) → h1.hp.get x = hh.hp.get x := by
  generalize hal : ps ++ rs = al at *
  have oK : ∀ {q}, q ∈ ps → q ∈ al := fun hq => by rw [← hal]; exact List.mem_append_left _ hq
  have abP : ∀ {q}, q ∈ rs → q ∈ al := fun hq => by rw [← hal]; exact List.mem_append_right _ hq
  let gc : Gb := ⟨fun k => g.ρ (foP al k), fun k => g.κ (foP al k), fun k => g.β (foP al k)⟩
  let φc : Nat → List Nat := fun k => φ (foP al k)
  have ay : ∀ {K k}, lk K al = some k → foP al k = K := fun hK => mN (aao hg hK)
  have hin : ∀ ks, er ps ks = true → jD g gc (fiP al) ks := fun ks hk k hks => by
    obtain ⟨j, hj⟩ := oL ((List.all_eq_true.1 hk) k hks)
    have hj' := eH hg (oK (mI hj))
    rw [mN hj']
    have := ay hj'
    exact ⟨congrArg g.ρ this, congrArg g.κ this, congrArg g.β this⟩
  have hbl : ∀ {k b'}, lk k bs = some b' → ∃ K b, (K, k) ∈ ps ∧ lk K s.bs = some b ∧ b' = b.ren (fiP al) ∧ foP al k = K := fun hk => by
    obtain ⟨K, b, m1, m2, m3⟩ := L5 hps hk
    exact ⟨K, b, m1, m2, m3, ay (eH hg (oK m1))⟩
  have zK : ∀ {K k b}, (K, k) ∈ ps → lk K s.bs = some b → ∀ i ∈ φ K, hh.hp.get i = h.hp.get i := fun m1 m2 i hi => hh0 i fun e => (hh1 i e).2.2.2 _ _ _ m1 m2 hi
  have ent : Ent F gc φc bs hh := by
    refine ⟨fun t x hx => (by cases hx), fun k b' hk => ?_, fun k k' b1 b2 hk hk' hne i hi => ?_, fun k b' hk i hi => ?_, fun i o ho => ?_, fun x hx => ?_, Nat.le_refl _, fun x _ _ => rfl, Hle.refl F, fun _ _ ho => .inl ho, fun k b' hk i hi => .inl ⟨by show (lk k bs).isSome = true; rw [hk]; rfl, hi⟩, fun x hx => (by cases hx), fun k _ j hj => ⟨rfl, rfl, rfl⟩⟩
    · obtain ⟨K, b, m1, m2, rfl, m4⟩ := hbl hk
      have hK := eH hg (oK m1)
      have q := ((r.bx K b m2).kF (h' := hh.hp.get) (Hle.refl F) fun i hi => zK m1 m2 i hi).ren (g' := gc) (f := fiP al) (fun j hj => by rw [List.mem_singleton.1 hj, mN hK]; exact ⟨congrArg g.ρ m4, congrArg g.κ m4, congrArg g.β m4⟩) (hin _ (Dd hkb m1 m2))
      rw [mN hK] at q
      show dg F gc hh.hp.get k _ (φ (foP al k))
      rw [m4]; exact q
    · obtain ⟨K, b, m1, m2, _, m4⟩ := hbl hk
      obtain ⟨K', b', m1', m2', _, m4'⟩ := hbl hk'
      have hi : i ∈ φ (foP al k) := hi
      show i ∉ φ (foP al k')
      rw [m4] at hi; rw [m4']
      refine r.dj K K' b b' m2 m2' (fun e => hne ?_) i hi
      have e1 := eH hg (oK m1)
      have e2 := eH hg (oK m1')
      rw [e, e2] at e1
      exact (Option.some.inj e1).symm
    · obtain ⟨K, b, m1, m2, _, m4⟩ := hbl hk
      have hi : i ∈ φ (foP al k) := hi
      rw [m4] at hi
      exact r.nf K b m2 i hi
    · exact (hh0 i fun e => by rw [(hh1 i e).2.1] at ho; cases ho).trans (r.sub i o ho)
    · have hx : h.nx ≤ x := by rw [← hhx]; exact hx
      exact (hh0 x fun e => by have := (hh1 x e).2.2.1; omega).trans (r.bd x hx)
  obtain ⟨F', g', φ', h1, v, go, hv, r1⟩ := hc.go ent (has.ren (hin _ hkx))
  let rw' : bq := rs
  let g2 : Gb := ⟨fun K => @Option.rec Nat (fun _ => Nat) (g.ρ K) (fun k => g'.ρ k) (lk K al), fun K => @Option.rec Nat (fun _ => Cp) (g.κ K) (fun k => g'.κ k) (lk K al), fun K => @Option.rec Nat (fun _ => Bool) (g.β K) (fun k => g'.β k) (lk K al)⟩
  let φ2 : Nat → List Nat := fun K => @Option.rec Nat (fun _ => List Nat) (φ K) (fun k => φ' k) (lk K al)
  have WQ : ∀ {K k}, lk K al = some k → g2.ρ K = g'.ρ k ∧ g2.κ K = g'.κ k ∧ g2.β K = g'.β k := fun {K k} hK => by
    show @Option.rec Nat (fun _ => Nat) (g.ρ K) (fun k => g'.ρ k) (lk K al) = _ ∧ @Option.rec Nat (fun _ => Cp) (g.κ K) (fun k => g'.κ k) (lk K al) = _ ∧ @Option.rec Nat (fun _ => Bool) (g.β K) (fun k => g'.β k) (lk K al) = _
    rw [hK]; exact ⟨rfl, rfl, rfl⟩
  have g2no : ∀ {K}, lk K al = none → g2.ρ K = g.ρ K ∧ g2.κ K = g.κ K ∧ g2.β K = g.β K := fun {K} hK => by
    show @Option.rec Nat (fun _ => Nat) (g.ρ K) (fun k => g'.ρ k) (lk K al) = _ ∧ @Option.rec Nat (fun _ => Cp) (g.κ K) (fun k => g'.κ k) (lk K al) = _ ∧ @Option.rec Nat (fun _ => Bool) (g.β K) (fun k => g'.β k) (lk K al) = _
    rw [hK]; exact ⟨rfl, rfl, rfl⟩
  have pg : ∀ {K k}, lk K al = some k → φ2 K = φ' k := fun {K k} hK => by
    show @Option.rec Nat (fun _ => List Nat) (φ K) (fun k => φ' k) (lk K al) = _
    rw [hK]
  have ni : ∀ {K}, lk K al = none → φ2 K = φ K := fun {K} hK => by
    show @Option.rec Nat (fun _ => List Nat) (φ K) (fun k => φ' k) (lk K al) = _
    rw [hK]
  have hpkB : ∀ {K k}, (K, k) ∈ ps → (lk k bs).isSome = true := fun hq => by
    obtain ⟨b, hb⟩ := HJ hps hq
    rw [hb]; rfl
  have g2ps : ∀ {K k}, (K, k) ∈ ps → g2.ρ K = g.ρ K ∧ g2.κ K = g.κ K ∧ g2.β K = g.β K := fun {K k} hq => by
    have hK := eH hg (oK hq)
    obtain ⟨a1, a2, a3⟩ := WQ hK
    obtain ⟨c1, c2, c3⟩ := r1.pin k (hpkB hq) k (by simp)
    have hb := ay hK
    exact ⟨a1.trans (c1.trans (congrArg g.ρ hb)), a2.trans (c2.trans (congrArg g.κ hb)), a3.trans (c3.trans (congrArg g.β hb))⟩
  have hgs : ∀ ks : List Nat, (∀ q ∈ rs, q.1 ∉ ks) → gL g g2 ks := fun ks hk K hK => by
    cases hl : lk K al with
    | none => exact g2no hl
    | some k =>
      have hm := mI hl
      rw [← hal] at hm
      rcases List.mem_append.1 hm with hm | hm
      · exact g2ps hm
      · exact absurd hK (hk _ hm)
  have OK : ∀ ks, er (jh al) ks = true → jD g' g2 (foP al) ks := fun ks hk k hks => by
    obtain ⟨K, hK⟩ := oL ((List.all_eq_true.1 hk) k hks)
    have e : foP al k = K := mN hK
    rw [e]
    exact WQ (TE hg hK)
  have lkb : ∀ {K b}, lk K (ob ++ s.bs) = some b → (∃ k b0, (K, k) ∈ al ∧ lk k bs' = some b0 ∧ b = b0.ren (foP al)) ∨ (lk K al = none ∧ lk K s.bs = some b) := fun {K b} hK => by
    rw [uj] at hK
    cases ho : lk K ob with
    | none => rw [ho] at hK; exact .inr ⟨HL hob ho, hK⟩
    | some b1 =>
      rw [ho] at hK
      cases hK
      exact .inl (Tm hob ho)
  have zj : ∀ {K k b0}, (K, k) ∈ al → lk k bs' = some b0 → ∀ i ∈ φ' k, (i < h.nx ∧ (K, k) ∈ ps ∧ ∃ b, lk K s.bs = some b ∧ i ∈ φ K) ∨ h.nx ≤ i := fun {K k b0} hm hb i hi => by
    rcases r1.iH k b0 hb i hi with ⟨c1, c2⟩ | c
    · have c1 : (lk k bs).isSome = true := c1
      obtain ⟨b', hb'⟩ := Option.isSome_iff_exists.1 c1
      obtain ⟨K', b, m1, m2, _, m4⟩ := hbl hb'
      have hKK : K' = K := by rw [← m4]; exact ay (eH hg hm)
      subst hKK
      have c2 : i ∈ φ (foP al k) := c2
      rw [m4] at c2
      exact .inl ⟨r.lt m2 i c2, m1, b, m2, c2⟩
    · exact .inr (by rw [← hhx]; exact c)
  have hold : ∀ x, x < h.nx → (∀ K k b, (K, k) ∈ ps → lk K s.bs = some b → x ∉ φ K) → h1.hp.get x = hh.hp.get x := fun x hx hno => r1.old x (show x < hh.nx by rw [hhx]; exact hx) fun k hp => by
    have c1 : (lk k bs).isSome = true := hp.1
    obtain ⟨b', hb'⟩ := Option.isSome_iff_exists.1 c1
    obtain ⟨K', b, m1, m2, _, m4⟩ := hbl hb'
    have c2 : x ∈ φ (foP al k) := hp.2
    rw [m4] at c2
    exact hno K' k b m1 m2 c2
  refine ⟨F', g2, φ2, h1, v, go, hv.ren (OK _ hky), fun h' hx0 hx1 hn' hl' => ?_, r1.f0, fun id o ho => ?_, ?_, fun x hx hlt => ?_, fun K b hK i hi => ?_, hgs, fun K hK => ni hK, hold⟩
  rotate_left
  · rcases r1.fn id o ho with c | c
    · exact .inl c
    · exact .inr (by rw [← hhx]; exact c)
  · have : hh.nx ≤ h1.nx := r1.nx
    omega
  · rcases r1.lg x hx with ⟨k, c1, c2⟩ | c
    · have c1 : (lk k bs).isSome = true := c1
      obtain ⟨b', hb'⟩ := Option.isSome_iff_exists.1 c1
      obtain ⟨K', b, m1, m2, _, m4⟩ := hbl hb'
      have c2 : x ∈ φ (foP al k) := c2
      rw [m4] at c2
      exact ⟨K', k, b, m1, m2, c2⟩
    · have c : hh.nx ≤ x := c
      omega
  · rcases lkb hK with ⟨k, b0, m1, m2, _⟩ | ⟨m1, m2⟩
    · rw [pg (eH hg m1)] at hi
      rcases zj m1 m2 i hi with ⟨c1, _, c2⟩ | c
      · exact .inl ⟨c1, c2⟩
      · exact .inr c
    · rw [ni m1] at hi
      exact .inl ⟨r.lt m2 i hi, b, m2, hi⟩
  have nx1 : h.nx ≤ h1.nx := by have : hh.nx ≤ h1.nx := r1.nx; omega
  have hpk : ∀ {K k b0}, (K, k) ∈ al → lk k bs' = some b0 → ∀ i ∈ φ' k, h'.hp.get i = h1.hp.get i := fun hm hb i hi => hx0 i fun e => by
    rcases zj hm hb i hi with ⟨_, m1, b, m2, m3⟩ | c
    · exact (hh1 i e).2.2.2 _ _ _ m1 m2 m3
    · have := (hh1 i e).2.2.1; omega
  have Zn : ∀ x, x < h.nx → (∀ K k b, (K, k) ∈ ps → lk K s.bs = some b → x ∉ φ K) → h'.hp.get x = h.hp.get x := fun x hx hno => by
    by_cases e : Hd x
    · exact hx1 x e
    · rw [hx0 x e, hold x hx hno, hh0 x e]
  have WE : ∀ {K}, lk K al = none → ∀ {b}, lk K s.bs = some b → ∀ i ∈ φ K, ∀ K' k' b', (K', k') ∈ ps → lk K' s.bs = some b' → i ∉ φ K' := fun {K} hK {b} hb i hi K' k' b' hp hb' => r.dj K K' b b' hb hb' (fun e => by
    have := eH hg (oK hp)
    rw [← e, hK] at this; cases this) i hi
  have hF0 : ∀ {i}, i < h.nx → F i = none → F' i = none := fun {i} hlt hf => by
    cases hF' : F' i with
    | none => rfl
    | some o => rcases r1.fn i o hF' with c | c
                · have c : F i = some o := c; rw [hf] at c; cases c
                · have c : hh.nx ≤ i := c; omega
  refine ⟨fun t x hx hn => ?_, fun K b hK => ?_, fun K K' b b2 hK hK' hne i hi => ?_, fun K b hK i hi => ?_, fun i o ho => ?_, fun x hx => ?_, ?_, fun x hx hp => ?_, r.f0.trans r1.f0, fun id o ho => ?_, fun K b hK i hi => ?_, fun x hx => ?_, fun K hK => ?_⟩
  · obtain ⟨v, v1, v2⟩ := r.tm t x hx hn
    exact ⟨v, v1, (v2.mono r1.f0).gb (hgs _ fun q hq => (hrs q hq).1.1 t x hx)⟩
  · rcases lkb hK with ⟨k, b0, m1, m2, rfl⟩ | ⟨m1, m2⟩
    · have hKl := eH hg m1
      rw [pg hKl]
      have q := ((r1.bx k b0 m2).kF (h' := h'.hp.get) (Hle.refl F') fun i hi => hpk m1 m2 i hi).ren (g' := g2) (f := foP al) (fun j hj => by rw [List.mem_singleton.1 hj, ay hKl]; exact WQ hKl) (OK _ (Dc hko m1 m2))
      rwa [ay hKl] at q
    · rw [ni m1]
      have q := ((r.bx K b m2).kF (h' := h'.hp.get) r1.f0 fun i hi => Zn i (r.lt m2 i hi) (WE m1 m2 i hi))
      exact q.gb (fun j hj => by rw [List.mem_singleton.1 hj]; exact g2no m1) (hgs _ fun q hq => fun hc => (hrs q hq).1.2 K b (fun e => by have := eH hg (abP (show (q.1, q.2) ∈ rs from hq)); rw [← e, m1] at this; cases this) m2 hc)
  · rcases lkb hK with ⟨k, b0, m1, m2, _⟩ | ⟨m1, m2⟩ <;> rcases lkb hK' with ⟨k', b0', m1', m2', _⟩ | ⟨m1', m2'⟩
    · rw [pg (eH hg m1)] at hi
      rw [pg (eH hg m1')]
      refine r1.dj k k' b0 b0' m2 m2' (fun e => hne ?_) i hi
      have e1 := ay (eH hg m1)
      have e2 := ay (eH hg m1')
      rw [← e1, ← e2, e]
    · rw [pg (eH hg m1)] at hi
      rw [ni m1']
      intro hc
      rcases zj m1 m2 i hi with ⟨_, c1, b3, c2, c3⟩ | c
      · exact WE m1' m2' i hc K k b3 c1 c2 c3
      · have := r.lt m2' i hc; omega
    · rw [ni m1] at hi
      rw [pg (eH hg m1')]
      intro hc
      rcases zj m1' m2' i hc with ⟨_, c1, b3, c2, c3⟩ | c
      · exact WE m1 m2 i hi K' k' b3 c1 c2 c3
      · have := r.lt m2 i hi; omega
    · rw [ni m1] at hi
      rw [ni m1']
      exact r.dj K K' b b2 m2 m2' hne i hi
  · rcases lkb hK with ⟨k, b0, m1, m2, _⟩ | ⟨m1, m2⟩
    · rw [pg (eH hg m1)] at hi; exact r1.nf k b0 m2 i hi
    · rw [ni m1] at hi; exact hF0 (r.lt m2 i hi) (r.nf K b m2 i hi)
  · refine (hx0 i fun e => ?_).trans (r1.sub i o ho)
    obtain ⟨_, e1, e2, _⟩ := hh1 i e
    rw [hF0 e2 e1] at ho; cases ho
  · rw [hn'] at hx
    exact (hx0 x fun e => by have := (hh1 x e).2.2.1; omega).trans (r1.bd x hx)
  · rw [hn']; exact Nat.le_trans r.nx nx1
  · have hlt : x < h.nx := Nat.lt_of_lt_of_le hx r.nx
    rw [Zn x hlt fun K k b m1 m2 hc => ?_]
    · exact r.old x hx hp
    · rcases r.iH K b m2 x hc with c | c
      · exact hp K c
      · omega
  · rcases r1.fn id o ho with c | c
    · exact r.fn id o c
    · have c : hh.nx ≤ id := c
      have := r.nx
      exact .inr (by omega)
  · rcases lkb hK with ⟨k, b0, m1, m2, _⟩ | ⟨m1, m2⟩
    · rw [pg (eH hg m1)] at hi
      rcases zj m1 m2 i hi with ⟨_, _, b3, c2, c3⟩ | c
      · exact r.iH K b3 c2 i c3
      · have := r.nx; exact .inr (by omega)
    · rw [ni m1] at hi; exact r.iH K b m2 i hi
  · rcases hl' x hx with c | ⟨c1, c2⟩
    · exact r.lg x c
    · rcases r1.lg x c1 with ⟨k, d1, d2⟩ | d
      · have d1 : (lk k bs).isSome = true := d1
        obtain ⟨b', hb'⟩ := Option.isSome_iff_exists.1 d1
        obtain ⟨K', b, m1, m2, _, m4⟩ := hbl hb'
        have d2 : x ∈ φ (foP al k) := d2
        rw [m4] at d2
        exact (r.iH K' b m2 x d2).elim (fun c => .inl ⟨K', c⟩) .inr
      · have d : hh.nx ≤ x := d
        omega
  · intro j hj
    have ej : j = K := by simpa using hj
    subst ej
    obtain ⟨c1, c2, c3⟩ := r.pin j hK j (by simp)
    obtain ⟨e1, e2, e3⟩ := hgs [j] (fun q hq hc => by
      have : q.1 = j := by simpa using Eq.symm (List.mem_singleton.1 hc) |>.symm
      have hpk' := (hrs q hq).2.1
      rw [this, hK] at hpk'; cases hpk') j (by simp)
    exact ⟨e1.trans c1, e2.trans c2, e3.trans c3⟩
end Go.Sim
end
noncomputable section
namespace Go.Sim
variable {F F':Hf} {g g':Gb} {B:Bs} {φ:Nat→List Nat} {s s' s1:LS} {tm:Tf} {h:Hs} {hp:Hf} {E:Env} {nt:Nat} {all l:List Oper}
theorem gf.call {p:Oper} {c:Call} {o:Operand} {f:Nat} {ps rs:bq} {bs bs' ob:List (Nat×Bx)} {xs:List AV} {y:AV} (hd:bS nt p.dst=true) (hw:iB all p s.ts=some true) (hc:da p.op=some c) (hf:c.callee= .value o) (hfv:aI s.ts o= .fn f [] []) (hxs:fO s.ts c.args.toList=xs) (hu:eo xs=true)
  (hg:nE (ps++rs)=true) (hps:nq s.bs (ps++rs) ps=some bs) (hkb:nw s.bs ps ps=true) (hkx:er ps (cE xs)=true) (hrs:∀q∈rs,s.free q.1∧B.pk q.1=false∧lk q.1 s.bs=none) (hC:bR E f bs (gG (fiP (ps++rs)) xs) y bs') (hob:r7 bs' (ps++rs) (ps++rs)=some ob) (hko:nu bs' (ps++rs) (ps++rs)=true) (hky:er (jh (ps++rs)) (bU y)=true)
  (hl:gf E nt B all l (LS.aS ⟨s.ts,ob++s.bs⟩ p.dst (jV (foP (ps++rs)) y)) s'):gf E nt B all (p::l) s s':=fun F g φ tm h r=>by
 subst hxs;obtain ⟨as,a1,a2⟩:=r.bF hu;obtain ⟨fv,f1,f2⟩:=r.val hfv (by simp)
 have ef:fv= .fn (.func f) [] []:=by
  cases f2 with
  |fn _ h1 h2=>cases h1;cases h2;rfl
 subst ef;obtain ⟨F',g',φ',h1,v,go,hv,hr,_⟩:=r.call (hh:=h) (Hd:=fun _=>False) (fun _ _=>rfl) (fun _ hc=>hc.elim) rfl hg hps hkb hkx a2 hrs hC hob hko hky
 have r2:=hr ⟨h1.hp,h1.nx,below h.nx h1.lg h.lg⟩ (fun _ _=>rfl) (fun _ hc=>hc.elim) rfl (fun x hx=>by
  have hb:∀(l acc:List Nat),x∈below h.nx l acc→x∈acc∨(x∈l∧x<h.nx):=fun l=>by
   induction l with
   |nil=>exact fun acc hx=>.inl hx
   |cons y l ih=>
    intro acc hx;have hx:x∈sel (Nat.ble (Nat.succ y) h.nx) (below h.nx l (y::acc)) (below h.nx l acc):=hx;rw[ax] at hx;split at hx
    ·rename_i hlt;rcases ih _ hx with c|c
     ·rcases List.mem_cons.1 c with rfl|c
      ·exact .inr ⟨by simp,Nat.le_of_ble_eq_true hlt⟩
      ·exact .inl c
     ·exact .inr ⟨List.mem_cons_of_mem _ c.1,c.2⟩
    ·rcases ih _ hx with c|c
     ·exact .inl c
     ·exact .inr ⟨List.mem_cons_of_mem _ c.1,c.2⟩
  exact hb _ _ hx)
 obtain ⟨F2,g2,φ2,tm',h',r',q⟩:=hl F' g' φ' _ _ (r2.aS (d:=p.dst) fun _=>hv)
 exact ⟨F2,g2,φ2,tm',h',r',.aad hd (nV r hw) hc (by rw[hf];exact f1) a1 go q⟩
inductive KI where
 |code (c:Code)|block (id:Nat)|loop (c:Code)
def resume (E:Env) (nt:Nat) (P:Ex→Tr SV→Hs→Prop):List KI→Ex→Tr SV→Hs→Prop
 | [],e,tm,h=>P e tm h
 | .code c::ks,e,tm,h=>(dM e=true→∃e' tm' h',bt E (.code nt c tm [] h) (.code e' tm' [] h')∧resume E nt P ks e' tm' h')∧(dM e=false→resume E nt P ks e tm h)
 | .block id::ks,e,tm,h=>resume E nt P ks (leave id e) tm h
 | .loop c::ks,e,tm,h=>(dM e=true→∃e' tm' h',bt E (.code nt (.loop c) tm [] h) (.code e' tm' [] h')∧resume E nt P ks e' tm' h')∧(dM e=false→resume E nt P ks e tm h)
def EndP (B:Bs) (Q:Ex→LS→Prop) (e:Ex) (tm:Tr SV) (h:Hs):Prop:=∃F g φ s,Rel B F g φ s tm.get h∧Q e s
def Wk (E:Env) (nt:Nat) (B:Bs) (c:Code) (ks:List KI) (s:LS) (Q:Ex→LS→Prop):Prop:=
 ∀{F g φ} {tm:Tr SV} {h},Rel B F g φ s tm.get h→∃e' tm' h',bt E (.code nt c tm [] h) (.code e' tm' [] h')∧resume E nt (EndP B Q) ks e' tm' h'
def WkO (E:Env) (nt:Nat) (B:Bs) (e:Ex) (ks:List KI) (s:LS) (Q:Ex→LS→Prop):Prop:=
 ∀{F g φ} {tm:Tr SV} {h},Rel B F g φ s tm.get h→resume E nt (EndP B Q) ks e tm h
variable {Q:Ex→LS→Prop} {ks:List KI} {a b c:Code} {e:Ex}
theorem pE (h:dM e=true):e= .normal:=by cases e<;>first|rfl|(cases h;done)
theorem Wk.skip (h:WkO E nt B .normal ks s Q):Wk E nt B .skip ks s Q:=fun r=>⟨_,_,_,.skip,h r⟩
theorem Wk.exit {id:Nat} (h:WkO E nt B (.exit id) ks s Q):Wk E nt B (.exit id) ks s Q:=fun r=>⟨_,_,_,.exit,h r⟩
theorem Wk.ret (h:WkO E nt B .ret ks s Q):Wk E nt B .ret ks s Q:=fun r=>⟨_,_,_,.ret,h r⟩
theorem Wk.seq (h:Wk E nt B a (.code b::ks) s Q):Wk E nt B (.seq a b) ks s Q:=fun r=>by
 obtain ⟨e1,tm1,h1,go,re⟩:=h r;cases he:dM e1 with
 |true=>
  obtain ⟨e2,tm2,h2,go2,re2⟩:=re.1 he;rw[pE he] at go;exact ⟨e2,tm2,h2,go.seq go2,re2⟩
 |false=>exact ⟨e1,tm1,h1,.abp he go,re.2 he⟩
theorem Wk.Ps {x:Operand} (hx:aI s.ts x= .bool true) (h:Wk E nt B a ks s Q):Wk E nt B (.cond x a b) ks s Q:=fun r=>by
 obtain ⟨v,v1,v2⟩:=r.val hx (by simp)
 cases v2;obtain ⟨e1,tm1,h1,go,re⟩:=h r;exact ⟨e1,tm1,h1,.Ps v1 go,re⟩
theorem Wk.Pt {x:Operand} (hx:aI s.ts x= .bool false) (h:Wk E nt B b ks s Q):Wk E nt B (.cond x a b) ks s Q:=fun r=>by
 obtain ⟨v,v1,v2⟩:=r.val hx (by simp)
 cases v2;obtain ⟨e1,tm1,h1,go,re⟩:=h r;exact ⟨e1,tm1,h1,.Pt v1 go,re⟩
theorem Wk.block {id:Nat} (h:Wk E nt B c (.block id::ks) s Q):Wk E nt B (.block id c) ks s Q:=fun r=>by
 obtain ⟨e1,tm1,h1,go,re⟩:=h r;exact ⟨_,tm1,h1,.block go,re⟩
theorem Wk.loop (h:Wk E nt B c (.loop c::ks) s Q):Wk E nt B (.loop c) ks s Q:=fun r=>by
 obtain ⟨e1,tm1,h1,go,re⟩:=h r;cases he:dM e1 with
 |true=>
  obtain ⟨e2,tm2,h2,go2,re2⟩:=re.1 he;rw[pE he] at go;exact ⟨e2,tm2,h2,.loop go go2,re2⟩
 |false=>exact ⟨e1,tm1,h1,.aan he go,re.2 he⟩
theorem Wk.region {id:Nat} {ops:Array Oper} (hl:gf E nt B ops.toList ops.toList s s1) (h:WkO E nt B .normal ks s1 Q):Wk E nt B (.region id ops false) ks s Q:=fun {F g φ tm hh} r=>by
 obtain ⟨F',g',φ',tm',h',r',go⟩:=hl F g φ tm hh r;exact ⟨_,_,_,.region go,h r'⟩
theorem WkO.code (h:Wk E nt B c ks s Q):WkO E nt B .normal (.code c::ks) s Q:=fun r=>⟨fun _=>h r,fun hc=>(by cases hc)⟩
theorem WkO.ZA (he:dM e=false) (h:WkO E nt B e ks s Q):WkO E nt B e (.code c::ks) s Q:=fun r=>⟨fun hc=>(by rw[he] at hc;cases hc),fun _=>h r⟩
theorem WkO.block {id:Nat} (h:WkO E nt B (leave id e) ks s Q):WkO E nt B e (.block id::ks) s Q:=fun r=>h r
theorem WkO.loop (h:Wk E nt B (.loop c) ks s Q):WkO E nt B .normal (.loop c::ks) s Q:=fun r=>⟨fun _=>h r,fun hc=>(by cases hc)⟩
theorem WkO.Yy (he:dM e=false) (h:WkO E nt B e ks s Q):WkO E nt B e (.loop c::ks) s Q:=fun r=>⟨fun hc=>(by rw[he] at hc;cases hc),fun _=>h r⟩
theorem WkO.nil (h:Q e s):WkO E nt B e [] s Q:=fun {F g φ tm hh} r=>⟨F,g,φ,s,r,h⟩
theorem Wk.Hm (hg:dB B s s1) (h:Wk E nt B c ks s1 Q):Wk E nt B c ks s Q:=fun r=>by
 obtain ⟨_,_,_,r1⟩:=hg.go r;exact h r1
theorem WkO.Hm (hg:dB B s s1) (h:WkO E nt B e ks s1 Q):WkO E nt B e ks s Q:=fun r=>by
 obtain ⟨_,_,_,r1⟩:=hg.go r;exact h r1
def resV (E:Env) (s:LS):ResultVar→Option AV
 | .tmp t=>lk t s.ts
 | .cell t ty=>aE (lk t s.ts) (E.ty.get ty) fun a i=>D6 i s.bs a
def Hy (E:Env) (s:LS):List ResultVar→Option (List AV)
 | []=>some []
 |r::rs=>aE (resV E s r) (Hy E s rs) fun v l=>some (v::l)
def NK:List AV→AV
 | [v]=>v
 |vs=>.tup vs
theorem Z8 (r:Rel B F g φ s tm h) {x:ResultVar} {y:AV} (hx:resV E s x=some y) (hu:y≠ .undef):∃v,yV E tm h.hp.get x=some v∧VA F g v y:=by
 cases x with
 |tmp t=>exact r.tm t y hx hu
 |cell t ty=>
  obtain ⟨a,i,h1,h2,h3⟩:=av hx;obtain ⟨v,v1,v2⟩:=r.tm t a h1 (fun e=>by subst e;cases h3)
  obtain ⟨u,u1,u2⟩:=MD (E:=E) (t:=ty) h2 h3 r v2;refine ⟨u,?_,u2⟩;show ah (tm t) (gU E h.hp.get ty)=_;rw[v1];exact RM u1
theorem L2 (r:Rel B F g φ s tm h):∀{l:List ResultVar} {ys:List AV},Hy E s l=some ys→eo ys=true→∃vs,fw E tm h.hp.get l=some vs∧VAs F g vs ys
 | [],_,hy,_=>by cases hy;exact ⟨[],rfl,.nil⟩
 |x::l,ys,hy,hu=>by
  obtain ⟨a,m,h1,h2,h3⟩:=av hy;cases h3;obtain ⟨u1,u2⟩:=uf hu;obtain ⟨v,v1,v2⟩:=Z8 r h1 u1;obtain ⟨vs,w1,w2⟩:=L2 r h2 u2;exact ⟨v::vs,by show aE _ _ _=_;rw[v1,w1];rfl,.cons v2 w2⟩
def nO:Nat→List AV→List (Nat×AV)
 |_,[]=> []
 |i,x::l=>(i,x)::nO (i+1) l
theorem Jr:∀{xs:List AV} {as:List SV},VAs F g as xs→∀{i t:Nat} {x:AV},lk t (nO i xs)=some x→∃v,i≤t∧t<i+as.length∧as[t-i]? =some v∧VA F g v x
 | [],_,_,i,t,x,h=>by cases h
 |y::l,_,.cons (vs:=vs) hv q,i,j,x,h=>by
  rw[show nO i (y::l)=(i,y)::nO (i+1) l from rfl,bh] at h;split at h
  ·rename_i e;cases h;subst e;exact ⟨_,Nat.le_refl _,by simp,by simp,hv⟩
  ·obtain ⟨v,a1,a2,a3,a4⟩:=Jr q h;refine ⟨v,by omega,by rw[List.length_cons];omega,?_,a4⟩
   rw[show j-i=(j-(i+1))+1 by omega,List.getElem?_cons_succ]
   exact a3
def BOK (pks:List Nat) (B:Bs):Prop:=∀k,cg k pks=false→B.pk k=false
def oE (bs:List (Nat×Bx)):List Nat:= @List.rec (Nat×Bx) (fun _=>List Nat) [] (fun p _ ih=>p.1::ih) bs
theorem TX {bs:List (Nat×Bx)} {k:Nat} (h:cg k (oE bs)=false):lk k bs=none:=by
 induction bs with
 |nil=>rfl
 |cons p l ih=>
  have h:sel (Nat.beq k p.1) true (cg k (oE l))=false:=h;rw[ax] at h;rw[show p::l=(p.1,p.2)::l from rfl,bh];split at h
  ·cases h
  ·rename_i e;rw[if_neg (fun c=>e ((beq_iff _ _).2 c))]
   exact ih h
def Xq (E:Env) (fn:Func) (y:AV) (bs':List (Nat×Bx)) (e:Ex) (s:LS):Prop:=oF e=true∧(∃ys,Hy E s fn.results.toList=some ys∧eo ys=true∧y=NK ys)∧∀k b,lk k bs'=some b→lk k s.bs=some b
theorem abA {vs:List SV} {ys:List AV} (q:VAs F g vs ys):VA F g (oneOf vs) (NK ys):=by
 cases q with
 |nil=>exact .tup .nil
 |cons h t=>
  cases t with
  |nil=>exact h
  |cons h2 t2=>exact .tup (.cons h (.cons h2 t2))
theorem aaH {f:Nat} {fn:Func} {c:Code} {bs bs':List (Nat×Bx)} {xs:List AV} {y:AV} (hk:v7 E f fn c) (hn:Nat.ble xs.length fn.ntmps=true)
  (hw:∀B,BOK (oE bs) B→Wk E fn.ntmps B c [] ⟨nO 0 xs,bs⟩ (Xq E fn y bs')):bR E f bs xs y bs':=.mk fun {F g φ h as} ent has=>by
 have hB:BOK (oE bs) (I5 F g φ bs h):=fun k hk=>by
  show (lk k bs).isSome=false;rw[TX hk];rfl
 have r:Rel (I5 F g φ bs h) F g φ ⟨nO 0 xs,bs⟩ (setArgs as 0 .nil).get ⟨h.hp,h.nx,[]⟩:={ent with tm:=fun t x hx hne=>(Jr has hx).elim fun v ha=>⟨v,by rw[qn,if_pos ⟨ha.1,ha.2.1⟩];exact ha.2.2.1,ha.2.2.2⟩}
 obtain ⟨e,tm1,h1,go,F',g',φ',s',r1,he,⟨ys,y1,y2,y3⟩,hbs⟩:=hw _ hB r;obtain ⟨vs,w1,w2⟩:=L2 r1 y1 y2;refine ⟨F',g',φ',h1,oneOf vs,?_,by rw[y3];exact abA w2,?_⟩
 ·have:=bt.call (E:=E) (h:=h) hk (fi:= []) (as:=as) (ca:= []) (vs:=vs) (by rw[List.nil_append,List.append_nil,has.length];exact hn) he (by rw[List.nil_append,List.append_nil];exact go) w1
  exact this
 ·have r2:=r1.less (s':=⟨[],bs'⟩) ⟨fun t y hy=>(by cases hy),fun k b hb=>⟨b,hbs k b hb,WB.refl b⟩⟩
  exact {r2 with tm:=fun t x hx _=>(by cases hx)}
end Go.Sim
end
noncomputable section
namespace Go.Sim
variable {F F':Hf} {g g':Gb} {B:Bs} {φ:Nat→List Nat} {s s' s1:LS} {tm:Tf} {h:Hs} {hp:Hf} {E:Env} {nt:Nat}
def cn (W M:Nat) (o:Oper):Nat:=Nat.mod (eC W M (cY o)) (Nat.pow 2 W)
def lr (W M i m:Nat):Nat:=Nat.lor M (Nat.shiftLeft m (Nat.mul i W))
theorem bt.aaC {W base i M:Nat} {all:List Oper} {prev:List Rc} {tm:Tr SV}:bt E (.draw nt W all base i M prev [] tm h) (.st tm h):=.step ⟨0,fun _ _=>rfl⟩
theorem uM {W base i M:Nat} {all l:List Oper} {o:Oper} {prev:List Rc} {tm:Tr SV} {rec:Job→Out} (hd:(bS nt o.dst&&eZ i (cY o))=true) {w:Bool} (hw:bC all o tm.get=some w):step E rec (.draw nt W all base i M prev (o::l) tm h)=sel w (doD E rec nt W all base i M (cn W M o) prev l tm h o (da o.op)) (iG rec nt W all base i M (cn W M o) prev l tm o.dst ⟨i,false,[],[],Nat.add base i,Nat.add (Nat.add base i) 1⟩ (.tup []) h):=by
 show sel (bS nt o.dst && eZ i (cY o)) (force (Nat.mod (eC W M (cY o)) (Nat.pow 2 W)) fun m=>DU E rec nt W all base i M m prev l tm h o (bC all o tm.get)) (.fail "slot")=_
 rw[hd,force_eq,hw];rfl
theorem xI {rec:Job→Out} {W base i M m:Nat} {all l:List Oper} {prev:List Rc} {tm:Tr SV} {d:Option Nat} {rc:Rc} {v:SV} (hi:cK m rc prev=true):iG rec nt W all base i M m prev l tm d rc v h=rec (.draw nt W all base (i+1) (lr W M i m) (rc::prev) l (aS tm d v) h):=by
 show sel (cK m rc prev) (force (lr W M i m) fun M'=>rec (.draw nt W all base (Nat.add i 1) M' (rc::prev) l (aS tm d v) h)) (.fail "order")=_
 rw[hi,force_eq]
variable {W base i M:Nat} {all l:List Oper} {o:Oper} {prev:List Rc} {tmr:Tr SV} {out:Out}
theorem bt.W7 (hd:(bS nt o.dst&&eZ i (cY o))=true) (hw:bC all o tmr.get=some false) (hi:cK (cn W M o) ⟨i,false,[],[],base+i,base+i+1⟩ prev=true)
  (ha:bt E (.draw nt W all base (i+1) (lr W M i (cn W M o)) (⟨i,false,[],[],base+i,base+i+1⟩::prev) l (aS tmr o.dst (.tup [])) h) out):bt E (.draw nt W all base i M prev (o::l) tmr h) out:=by
 obtain ⟨n1,e1⟩:=ha;refine .step ⟨n1,fun n hn=> ?_⟩
 rw[uM hd hw];show iG (run E n) nt W all base i M (cn W M o) prev l tmr o.dst ⟨i,false,[],[],base+i,base+i+1⟩ (.tup []) h=_;rw[xI hi];exact e1 n hn
theorem bt.aaA {v:SV} {us:List Up} (hd:(bS nt o.dst&&eZ i (cY o))=true) (hw:bC all o tmr.get=some true) (hc:da o.op=none) (hv:opA E o.op tmr.get h.hp.get (base+i)=some (v,us)) (hi:cK (cn W M o) ⟨i,false,dS o.op tmr.get,fN (base+i) us,base+i,base+i+1⟩ prev=true)
  (ha:bt E (.draw nt W all base (i+1) (lr W M i (cn W M o)) (⟨i,false,dS o.op tmr.get,fN (base+i) us,base+i,base+i+1⟩::prev) l (aS tmr o.dst v) (h.ups us)) out):bt E (.draw nt W all base i M prev (o::l) tmr h) out:=by
 obtain ⟨n1,e1⟩:=ha;refine .step ⟨n1,fun n hn=> ?_⟩
 rw[uM hd hw,hc];show M9 (run E n) nt W all base i M (cn W M o) prev l tmr h o (opA E o.op tmr.get h.hp.get (base+i))=_;rw[hv];show iG (run E n) nt W all base i M (cn W M o) prev l tmr o.dst ⟨i,false,dS o.op tmr.get,fN (base+i) us,base+i,base+i+1⟩ v (h.ups us)=_;rw[xI hi];exact e1 n hn
theorem bt.Xa {c:Call} {f:SV} {as:List SV} {v:SV} {h2:Hs} (hd:(bS nt o.dst&&eZ i (cY o))=true) (hw:bC all o tmr.get=some true) (hc:da o.op=some c) (hf:ey tmr.get c.callee=some f) (has:bF tmr.get c.args.toList=some as)
  (hv:bt E (.call f as ⟨eN (cn W M o) prev h.hp,h.nx,[]⟩) (.bI [⟨false,v,h2⟩])) (hi:cK (cn W M o) ⟨i,true,[],below h.nx h2.lg [],h.nx,h2.nx⟩ prev=true)
  (ha:bt E (.draw nt W all base (i+1) (lr W M i (cn W M o)) (⟨i,true,[],below h.nx h2.lg [],h.nx,h2.nx⟩::prev) l (aS tmr o.dst v) ⟨dI (cn W M o) h.hp prev h2.hp,h2.nx,below h.nx h2.lg h.lg⟩) out):bt E (.draw nt W all base i M prev (o::l) tmr h) out:=by
 obtain ⟨n1,e1⟩:=ha;obtain ⟨n2,e2⟩:=hv;refine .step ⟨n1+n2,fun n hn=> ?_⟩
 rw[uM hd hw,hc];show OU (run E n) ⟨eN (cn W M o) prev h.hp,h.nx,[]⟩ (ey tmr.get c.callee) (bF tmr.get c.args.toList) (fun v h2=>iG (run E n) nt W all base i M (cn W M o) prev l tmr o.dst ⟨i,true,[],below h.nx h2.lg [],h.nx,h2.nx⟩ v ⟨dI (cn W M o) h.hp prev h2.hp,h2.nx,below h.nx h2.lg h.lg⟩) _=_
 rw[hf,has];show B1 (run E n (.call f as ⟨eN (cn W M o) prev h.hp,h.nx,[]⟩)) (fun v h2=>iG (run E n) nt W all base i M (cn W M o) prev l tmr o.dst ⟨i,true,[],below h.nx h2.lg [],h.nx,h2.nx⟩ v ⟨dI (cn W M o) h.hp prev h2.hp,h2.nx,below h.nx h2.lg h.lg⟩) (fun v h2=>sel (D3 l && (l4 (cn W M o) i && mh (cn W M o) prev)) (.code (.pan v) tmr [] ⟨h2.hp,h2.nx,below h.nx h2.lg h.lg⟩) (.fail "panic in a drawn region"))=_
 rw[e2 n (by omega)]
 show iG (run E n) nt W all base i M (cn W M o) prev l tmr o.dst ⟨i,true,[],below h.nx h2.lg [],h.nx,h2.nx⟩ v ⟨dI (cn W M o) h.hp prev h2.hp,h2.nx,below h.nx h2.lg h.lg⟩=_;rw[xI hi];exact e1 n (by omega)
theorem rO:∀(us:List Up) {x:Nat},(∀u∈us,u.1≠x)→∀h:Hs,(h.ups us).hp.get x=h.hp.get x
 | [],_,_,h=>rfl
 |u::us,x,hu,h=>by
  show ((h.up u).ups us).hp.get x=_;rw[rO us (fun v hv=>hu v (List.mem_cons_of_mem _ hv)) (h.up u)]
  show (h.hp.set u.1 u.2).get x=_;rw[Tr.bN,if_neg (Ne.symm (hu u List.mem_cons_self))]
def LS.kI (s:LS) (K:Nat):LS:=⟨(s.dH K).ts,cJ K (s.dH K).bs⟩
def LS.ny (s:LS) (W:WK):LS:=match W with|none=>s|some q=>s.kI q.1
theorem aaw {K t:Nat} {y:AV} (h:lk t (s.kI K).ts=some y):∃x,lk t s.ts=some x∧y=gY K x:=by
 rw[show (s.kI K).ts=s.ts.map fun p=>(p.1,gY K p.2) from rfl,gV] at h
 obtain ⟨x,hx,rfl⟩:=Option.map_eq_some_iff.1 h;exact ⟨x,hx,rfl⟩
theorem Cn {K k:Nat} {b:Bx} (h:lk k (s.kI K).bs=some b):k≠K∧∃b0,lk k s.bs=some b0∧b=b0.dH K:=by
 rw[show (s.kI K).bs=cJ K (s.bs.map fun p=>(p.1,p.2.dH K)) from rfl,dZ] at h
 split at h
 ·cases h
 ·rename_i hne;rw[gV] at h;obtain ⟨b0,h0,rfl⟩:=Option.map_eq_some_iff.1 h;exact ⟨hne,b0,h0,rfl⟩
theorem IB (r:Rel B F g φ s tm h) (K:Nat):Rel B F g φ (s.kI K) tm h:=by
 have r1:=IQ r K;refine r1.less ⟨fun t y hy=>.inr ⟨y,hy,WV.refl y⟩,fun k b hb=> ?_⟩
 rw[show (s.kI K).bs=cJ K (s.dH K).bs from rfl,dZ] at hb;split at hb
 ·cases hb
 ·exact ⟨b,hb,WB.refl b⟩
theorem Dg (s:LS) (K:Nat):(s.kI K).free K:=by
 obtain ⟨h1,h2⟩:=Dn s K;refine ⟨h1,fun k b hne hb=>h2 k b hne ?_⟩
 rw[show (s.kI K).bs=cJ K (s.dH K).bs from rfl,dZ,if_neg hne] at hb;exact hb
theorem Rel.PJ (r:Rel B F g φ s tm h) {F2:Hf} {g2:Gb} {φ2:Nat→List Nat} {s2:LS} {h':Hs} {tm2:Tf} (r2:Rel B F2 g2 φ2 s2 tm2 h') (hF:∀id o,F id=some o→h'.hp.get id=h.hp.get id) (hb:∀k b,lk k s.bs=some b→∀i∈φ k,h'.hp.get i=h.hp.get i) (hφ:∀k b,lk k s.bs=some b→φ2 k=φ k)
  (hgt:∀t x,lk t s.ts=some x→gL g g2 (bU x)) (hgb:∀k b,lk k s.bs=some b→gL g g2 [k]∧gL g g2 b.keys):Rel B F g2 φ2 s tm h':=by
 refine ⟨fun t x hx hn=> ?_,fun k b hk=> ?_,fun k k' b b' hk hk' hne i hi=> ?_,fun k b hk i hi=> ?_,fun i o ho=>(hF i o ho).trans (r.sub i o ho),r2.bd,r2.nx,r2.old,r.f0,r.fn,fun k b hk i hi=> ?_,r2.lg,r2.pin⟩
 ·obtain ⟨v,v1,v2⟩:=r.tm t x hx hn;exact ⟨v,v1,v2.gb (hgt t x hx)⟩
 ·rw[hφ k b hk];exact ((r.bx k b hk).kF (Hle.refl F) fun i hi=>hb k b hk i hi).gb (hgb k b hk).1 (hgb k b hk).2
 ·rw[hφ k b hk] at hi;rw[hφ k' b' hk'];exact r.dj k k' b b' hk hk' hne i hi
 ·rw[hφ k b hk] at hi;exact r.nf k b hk i hi
 ·rw[hφ k b hk] at hi;exact r.iH k b hk i hi
end Go.Sim
end
noncomputable section
namespace Go.Sim
variable {F F':Hf} {g g':Gb} {B:Bs} {φ:Nat→List Nat} {s s' s1:LS} {tm:Tf} {h:Hs} {hp:Hf} {E:Env} {nt:Nat}
theorem qV {lo hi:Nat}:∀{l:List Nat},(∀x∈l,x<lo∨hi≤x)→iE lo hi l=true
 | [],_=>rfl
 |x::l,h=>by
  have ih:=qV (lo:=lo) (hi:=hi) (l:=l) fun y hy=>h y (List.mem_cons_of_mem _ hy)
  show sel (Nat.ble (Nat.succ x) lo) (iE lo hi l) (sel (Nat.ble hi x) (iE lo hi l) false)=true;rw[ih,ax,ax];rcases h x List.mem_cons_self with c|c
  ·rw[if_pos (Nat.ble_eq_true_of_le c)]
  ·rw[if_pos (Nat.ble_eq_true_of_le c)];split<;>rfl
theorem sP:∀{l m:List Nat},(∀x∈l,x∉m)→gZ l m=true
 | [],_,_=>rfl
 |x::l,m,h=>by
  show sel (cg x m) false (gZ l m)=true;rw[sP fun y hy=>h y (List.mem_cons_of_mem _ hy),ax,if_neg]
  exact fun hc=>h x List.mem_cons_self ((dz _ _).1 hc)
structure PI where
 i:Nat
 n:Nat
 rk:List Nat
 wk:List Nat
 wn:Bool
structure DR (B:Bs) (base W cur nc:Nat) (vs:List LS) (laid:bq) (pp:List (Rc×PI)) (g:Gb) (φ:Nat→List Nat) (Fs:Nat→Hf) (lim:Nat→Nat) (tm:Tf) (h:Hs):Prop where
 r:∀(j:Nat) (s:LS),vs[j]? =some s→Rel B (Fs j) g φ s tm h
 up:∀(j j':Nat) (s s':LS),j≤j'→vs[j]? =some s→vs[j']? =some s'→Hle (Fs j) (Fs j')∧∀k b,lk k s.bs=some b→∃b',lk k s'.bs=some b'
 fb:∀(j:Nat) (s:LS),vs[j]? =some s→∀id o,Fs j id=some o→id<base∨(base+W≤id∧id<lim j)
 bb:∀(j:Nat) (s:LS),vs[j]? =some s→∀k b,lk k s.bs=some b→∀i∈φ k,i<base∨(base+W≤i∧i<lim j)∨∃q,(k,q)∈laid∧q<cur∧i=base+q
 lm:∀(j:Nat) (s:LS),vs[j]? =some s→base+W≤lim j∧lim j≤h.nx
 top:vs.length=nc+1
 hx:base+W≤h.nx
 em:∀q,cur≤q→q<W→h.hp.get (base+q)=none
 bn:B.nx≤base
 pi:∀q∈pp,q.1.i=q.2.i∧q.2.i<cur∧q.2.n≤nc∧(q.2.n=0→q.1.call=false∧q.1.lo=base+q.2.i∧q.1.hi=base+q.2.i+1)∧(q.2.n≠0→q.1.call=true∧base+W≤q.1.lo∧q.1.hi≤h.nx∧∀(j:Nat) (s:LS),vs[j]? =some s→j<q.2.n→lim j≤q.1.lo)
 po:∀q∈pp,∀id,id∈q.1.rd∨id∈q.1.wr→id<base∨(base+W≤id∧id<h.nx)∨∃j,j≤q.2.i∧id=base+j
 pr:∀q∈pp,∀(j:Nat) (s:LS),vs[j]? =some s→∀k b,lk k s.bs=some b→∀i∈φ k,(i∈q.1.rd→k∈q.2.rk)∧(i∈q.1.wr→k∈q.2.wk)
 pf:∀q∈pp,∀i∈q.1.wr,∀(j:Nat) (s:LS),vs[j]? =some s→Fs j i=none
 pw:∀q∈pp,q.2.wn=true→q.1.wr= []
def wM (l m:Nat) (rk wk:List Nat) (call wn:Bool) (p:PI):Prop:=df m p.i=true∨((p.n≠0→l<p.n∧call=false∧wn=true)∧(call=true→p.wn=true)∧(∀k∈wk,k∉p.rk∧k∉p.wk)∧∀k∈rk,k∉p.wk)
variable {base W cur nc:Nat} {vs:List LS} {laid:bq} {pp:List (Rc×PI)} {Fs:Nat→Hf} {lim:Nat→Nat}
theorem DR.indep (D:DR B base W cur nc vs laid pp g φ Fs lim tm h) {l m:Nat} {sl:LS} {rc:Rc} {rk wk:List Nat} {wn:Bool} (eO:cur<W) (hl:vs[l]? =some sl) (hrd:∀id∈rc.rd,(∃o,Fs l id=some o)∨∃k∈rk,∃b,lk k sl.bs=some b∧id∈φ k) (hwr:∀id∈rc.wr,∃k∈wk,∃b,lk k sl.bs=some b∧id∈φ k)
  (ea:∀id,rc.lo≤id→id<rc.hi→id=base+cur∨h.nx≤id) (mz:∀k j,(k∈rk∨k∈wk)→(k,j)∈laid→df m j=true) (hwn:wn=true→rc.wr= []) (qz:∀q∈pp,wM l m rk wk rc.call wn q.2):cK m rc (pp.map (·.1))=true:=by
 have key:∀(l:List (Rc×PI)),(∀q∈l,df m q.1.i=true∨rh q.1 rc=true)→cK m rc (l.map (·.1))=true:=fun l=>by
  induction l with
  |nil=>exact fun _=>rfl
  |cons q l ih=>
   intro hq;have ih:=ih fun p hp=>hq p (List.mem_cons_of_mem _ hp)
   show sel (df m q.1.i) (cK m rc (l.map (·.1))) (sel (rh q.1 rc) (cK m rc (l.map (·.1))) false)=true
   rw[ih,ax,ax];rcases hq q List.mem_cons_self with c|c
   ·rw[if_pos c]
   ·rw[if_pos c];split<;>rfl
 refine key pp fun q hq=> ?_
 obtain ⟨p1,p2,p3,p4,p5⟩:=D.pi q hq;rcases qz q hq with c|⟨c1,c2,c3,c4⟩
 ·exact .inl (by rw[p1];exact c)
 by_cases hm:df m q.2.i=true
 ·exact .inl (by rw[p1];exact hm)
 refine .inr ?_;have hoff:∀id,((∃o,Fs l id=some o)∨∃k,(k∈rk∨k∈wk)∧∃b,lk k sl.bs=some b∧id∈φ k)→id<q.1.lo∨q.1.hi≤id:=fun id hid=>by
  have m6:=D.lm l sl hl;by_cases hn:q.2.n=0
  ·obtain ⟨_,e1,e2⟩:=p4 hn;rw[e1,e2];rcases hid with ⟨o,ho⟩|⟨k,hk,b,hb,hi⟩
   ·rcases D.fb l sl hl id o ho with c|c<;>omega
   ·rcases D.bb l sl hl k b hb id hi with c|c|⟨j,j1,j2,rfl⟩
    ·omega
    ·omega
    ·have:j≠q.2.i:=fun e=>hm (by rw[←e];exact mz k j hk j1)
     omega
  ·obtain ⟨_,e1,e2,e3⟩:=p5 hn;have e3:=e3 l sl hl (c1 hn).1;rcases hid with ⟨o,ho⟩|⟨k,hk,b,hb,hi⟩
   ·rcases D.fb l sl hl id o ho with c|c<;>omega
   ·rcases D.bb l sl hl k b hb id hi with c|c|⟨j,j1,j2,rfl⟩<;>omega
 have hold:∀id,id∈q.1.rd∨id∈q.1.wr→id<rc.lo∨rc.hi≤id:=fun id hid=>by
  by_cases h1:rc.lo≤id
  ·by_cases h2:id<rc.hi
   ·have:=D.hx;rcases ea id h1 h2 with e|e<;>rcases D.po q hq id hid with c|c|⟨j,j1,rfl⟩<;>omega
   ·exact .inr (by omega)
  ·exact .inl (by omega)
 have i1:iE q.1.lo q.1.hi rc.rd=true:=qV fun id hid=>hoff id ((hrd id hid).elim .inl fun ⟨k,hk,x⟩=>.inr ⟨k,.inl hk,x⟩)
 have i2:iE q.1.lo q.1.hi rc.wr=true:=qV fun id hid=>hoff id (by obtain ⟨k,hk,x⟩:=hwr id hid;exact .inr ⟨k,.inr hk,x⟩)
 have i3:iE rc.lo rc.hi q.1.rd=true:=qV fun id hid=>hold id (.inl hid)
 have i4:iE rc.lo rc.hi q.1.wr=true:=qV fun id hid=>hold id (.inr hid)
 have i5:gZ q.1.rd rc.wr=true:=sP fun id hid hw=>by
  obtain ⟨k,hk,b,hb,hi⟩:=hwr id hw;exact (c3 k hk).1 ((D.pr q hq l sl hl k b hb id hi).1 hid)
 have i6:gZ rc.rd q.1.wr=true:=sP fun id hid hw=>by
  rcases hrd id hid with ⟨o,ho⟩|⟨k,hk,b,hb,hi⟩
  ·rw[D.pf q hq id hw l sl hl] at ho;cases ho
  ·exact c4 k hk ((D.pr q hq l sl hl k b hb id hi).2 hw)
 have i7:gZ q.1.wr rc.wr=true:=sP fun id hid hw=>by
  obtain ⟨k,hk,b,hb,hi⟩:=hwr id hw;exact (c3 k hk).2 ((D.pr q hq l sl hl k b hb id hi).2 hid)
 have i8:sel q.1.call (sel rc.call false (lY rc.wr)) (sel rc.call (lY q.1.wr) true)=true:=by
  by_cases hn:q.2.n=0
  ·rw[(p4 hn).1];show sel rc.call (lY q.1.wr) true=true;cases hcl:rc.call with
   |false=>rfl
   |true=>show lY q.1.wr=true;rw[D.pw q hq (c2 hcl)];rfl
  ·rw[(p5 hn).1];obtain ⟨_,d1,d2⟩:=c1 hn;rw[d1,hwn d2];rfl
 show (iE q.1.lo q.1.hi rc.rd&&(iE q.1.lo q.1.hi rc.wr&&(iE rc.lo rc.hi q.1.rd&&(iE rc.lo rc.hi q.1.wr&&(gZ q.1.rd rc.wr&&(gZ rc.rd q.1.wr&&(gZ q.1.wr rc.wr&&sel q.1.call (sel rc.call false (lY rc.wr)) (sel rc.call (lY q.1.wr) true))))))))=true;rw[i1,i2,i3,i4,i5,i6,i7,i8];rfl
def DZ:Op→List Operand
 | .load _ x=> [x]
 | .store _ x y=> [x,y]
 | .lookup _ x k _=> [x,k]
 | .mapUpdate _ m k x=> [m,k,x]
 | .insert _ m k x=> [m,k,x]
 | .next it _=> [it]
 | .range _ x=> [x]
 | .call c=>c.args.toList
 |_=> []
def N0 (op:Op):Bool:=match op with| .call c=>jt c|_=>false
theorem NG (op:Op) (tm:Tf):dS op tm=sel (N0 op) (sk tm (DZ op)) (gI tm (DZ op)):=by cases op<;>rfl
def Ze (bs:List (Nat×Bx)):AV→Option (List Nat)
 | .undef=>none
 | .loc K _=>(match lk K bs with|some (.flat _ _)=>some [K]|_=>none)
 | .el K _ _ _=>(match lk K bs with|some (.rows _ _ _ _)=>some [K]|some (.hole _ _ _ _ _)=>some [K]|_=>none)
 | .ms K _ _ _=>(match lk K bs with|some (.rows _ _ _ _)=>some [K]|_=>none)
 | .mp K=>(match lk K bs with|some (.map _)=>some [K]|_=>none)
 | .it K=>(match lk K bs with|some (.iter _ _)=>some [K]|_=>none)
 |_=>some []
def Ih (ts:List (Nat×AV)) (bs:List (Nat×Bx)):List Operand→Option (List Nat)
 | []=>some []
 |x::l=>aE (Ze bs (aI ts x)) (Ih ts bs l) fun a b=>some (a++b)
theorem V5 (r:Rel B F g φ s tm h) {y:AV} {v:SV} {ks:List Nat} (hv:VA F g v y) (hk:Ze s.bs y=some ks):∀id∈dN (some v),(∃o,F id=some o)∨∃k∈ks,∃b,lk k s.bs=some b∧id∈φ k:=by
 intro id hid;cases hv with
 |slice hF=>exact .inl (by rw[List.mem_singleton.1 hid];exact uS hF)
 |sln hF=>exact .inl (by rw[List.mem_singleton.1 hid];exact uS hF)
 |imm hF=>exact .inl (by rw[List.mem_singleton.1 hid];exact uS hF)
 |loc K off=>
  have hk:(match lk K s.bs with|some (.flat _ _)=>some [K]|_=>none)=some ks:=hk
  split at hk
  ·rename_i hb;cases hk;refine .inr ⟨K,by simp,_,hb,?_⟩
   have q:=r.bx K _ hb;generalize φ K=fp at q ⊢;cases q with|flat=>rw[List.mem_singleton.1 hid];simp
  ·cases hk
 | @el _ K s' j f hb0=>
  have hk:(match lk K s.bs with|some (.rows _ _ _ _)=>some [K]|some (.hole _ _ _ _ _)=>some [K]|_=>none)=some ks:=hk
  split at hk
  ·rename_i hb;cases hk;refine .inr ⟨K,by simp,_,hb,?_⟩
   have q:=r.bx K _ hb;generalize φ K=fp at q ⊢;cases q with
   |cW hb1=>rw[hb0] at hb1;cases hb1
   |rows=>rw[List.mem_singleton.1 hid];simp
  ·rename_i hb;cases hk;refine .inr ⟨K,by simp,_,hb,?_⟩
   have q:=r.bx K _ hb;generalize φ K=fp at q ⊢;cases q with
   |hole=>rw[List.mem_singleton.1 hid];simp
  ·cases hk
 | @ms _ K s' lo n hb0=>
  have hk:(match lk K s.bs with|some (.rows _ _ _ _)=>some [K]|_=>none)=some ks:=hk
  split at hk
  ·rename_i hb;cases hk;refine .inr ⟨K,by simp,_,hb,?_⟩
   have q:=r.bx K _ hb;generalize φ K=fp at q ⊢;cases q with
   |cW hb1=>rw[hb0] at hb1;cases hb1
   |rows=>rw[List.mem_singleton.1 hid];simp
  ·cases hk
 |mp K=>
  have hk:(match lk K s.bs with|some (.map _)=>some [K]|_=>none)=some ks:=hk
  split at hk
  ·rename_i hb;cases hk;refine .inr ⟨K,by simp,_,hb,?_⟩
   have q:=r.bx K _ hb;generalize φ K=fp at q ⊢;cases q with|map=>rw[List.mem_singleton.1 hid];simp
  ·cases hk
 |it K=>
  have hk:(match lk K s.bs with|some (.iter _ _)=>some [K]|_=>none)=some ks:=hk
  split at hk
  ·rename_i hb;cases hk;refine .inr ⟨K,by simp,_,hb,?_⟩
   have q:=r.bx K _ hb;generalize φ K=fp at q ⊢;cases q with|iter=>rw[List.mem_singleton.1 hid];simp
  ·cases hk
 |undef=>cases hk
 |_=>cases hid
theorem Db (r:Rel B F g φ s tm h):∀{l:List Operand} {ks:List Nat},Ih s.ts s.bs l=some ks→∀id∈gI tm l,(∃o,F id=some o)∨∃k∈ks,∃b,lk k s.bs=some b∧id∈φ k
 | [],_,_,id,hid=>by cases hid
 |x::l,ks,hk,id,hid=>by
  obtain ⟨a,b,h1,h2,h3⟩:=av hk;cases h3;have hid:id∈dN (aF tm x)++gI tm l:=hid;rcases List.mem_append.1 hid with hid|hid
  ·have hne:aI s.ts x≠ .undef:=fun e=>by rw[e] at h1;cases h1
   obtain ⟨v,v1,v2⟩:=r.val rfl hne;rw[v1] at hid;rcases V5 r v2 h1 id hid with c|⟨k,hk,c⟩
   ·exact .inl c
   ·exact .inr ⟨k,List.mem_append_left _ hk,c⟩
  ·rcases Db r h2 id hid with c|⟨k,hk,c⟩
   ·exact .inl c
   ·exact .inr ⟨k,List.mem_append_right _ hk,c⟩
def TZ (bs:List (Nat×Bx)):AV→Option (List Nat)
 | .undef=>none
 | .mp K=>(match lk K bs with|some (.map _)=>some [K]|_=>none)
 |_=>some []
def Cc (ts:List (Nat×AV)) (bs:List (Nat×Bx)):List Operand→Option (List Nat)
 | []=>some []
 |x::l=>aE (TZ bs (aI ts x)) (Cc ts bs l) fun a b=>some (a++b)
def rf (ts:List (Nat×AV)) (bs:List (Nat×Bx)) (op:Op):Option (List Nat):=sel (N0 op) (Cc ts bs (DZ op)) (Ih ts bs (DZ op))
theorem TY (r:Rel B F g φ s tm h) {y:AV} {v:SV} {ks:List Nat} (hv:VA F g v y) (hk:TZ s.bs y=some ks):∀id∈idM (some v),∃k∈ks,∃b,lk k s.bs=some b∧id∈φ k:=by
 intro id hid;cases hv with
 |mp K=>
  have hk:(match lk K s.bs with|some (.map _)=>some [K]|_=>none)=some ks:=hk
  split at hk
  ·rename_i hb;cases hk;refine ⟨K,by simp,_,hb,?_⟩
   have q:=r.bx K _ hb;generalize φ K=fp at q ⊢;cases q with|map=>rw[List.mem_singleton.1 hid];simp
  ·cases hk
 |undef=>cases hk
 |_=>cases hid
theorem zu (r:Rel B F g φ s tm h):∀{l:List Operand} {ks:List Nat},Cc s.ts s.bs l=some ks→∀id∈sk tm l,∃k∈ks,∃b,lk k s.bs=some b∧id∈φ k
 | [],_,_,id,hid=>by cases hid
 |x::l,ks,hk,id,hid=>by
  obtain ⟨a,b,h1,h2,h3⟩:=av hk;cases h3;have hne:aI s.ts x≠ .undef:=fun e=>by rw[e] at h1;cases h1
  obtain ⟨v,v1,v2⟩:=r.val rfl hne;rcases List.mem_append.1 (show id∈idM (aF tm x)++sk tm l from hid) with hid|hid
  ·rw[v1] at hid;obtain ⟨k,c1,c2⟩:=TY r v2 h1 id hid;exact ⟨k,List.mem_append_left _ c1,c2⟩
  ·obtain ⟨k,c1,c2⟩:=zu r h2 id hid;exact ⟨k,List.mem_append_right _ c1,c2⟩
theorem N8 (r:Rel B F g φ s tm h) {op:Op} {ks:List Nat} (hk:rf s.ts s.bs op=some ks):∀id∈dS op tm,(∃o,F id=some o)∨∃k∈ks,∃b,lk k s.bs=some b∧id∈φ k:=by
 rw[NG];unfold rf at hk;cases hl:N0 op with
 |true=>
  rw[hl] at hk;exact fun id hid=>.inr (zu r hk id hid)
 |false=>
  rw[hl] at hk;exact fun id hid=>Db r hk id hid
end Go.Sim
end
noncomputable section
namespace Go.Sim
variable {F F':Hf} {g g':Gb} {B:Bs} {φ:Nat→List Nat} {s s' s1:LS} {tm:Tr SV} {h:Hs} {hp:Hf} {E:Env} {nt:Nat}
variable {base W cur nc:Nat} {vs vs':List LS} {laid:bq} {pp:List (Rc×PI)} {Fs:Nat→Hf} {lim:Nat→Nat}
theorem rM {new:Nat}:∀{us:List Up} {id:Nat},id∈fN new us→id≠new∧∃u∈us,u.1=id
 | [],id,h=>by cases h
 |u::us,id,h=>by
  have h:id∈sel (Nat.beq u.1 new) (fN new us) (u.1::fN new us):=h;rw[ax] at h;split at h
  ·obtain ⟨a,v,b,c⟩:=rM h;exact ⟨a,v,List.mem_cons_of_mem _ b,c⟩
  ·rename_i hne;rcases List.mem_cons.1 h with rfl|h
   ·exact ⟨fun e=>hne ((beq_iff _ _).2 e),u,List.mem_cons_self,rfl⟩
   ·obtain ⟨a,v,b,c⟩:=rM h;exact ⟨a,v,List.mem_cons_of_mem _ b,c⟩
theorem Ve {new:Nat} {us:List Up} (h:∀u∈us,u.1=new):fN new us= []:=by
 cases hw:fN new us with
 |nil=>rfl
 |cons a l=>
  obtain ⟨h1,u,h2,h3⟩:=rM (new:=new) (us:=us) (id:=a) (by rw[hw];exact List.mem_cons_self)
  exact absurd (h3.symm.trans (h u h2)) h1
def kg:WK→List Nat
 |some (K,false)=> [K]
 |_=> []
def tF:WK→Bool
 |some (_,false)=>false
 |_=>true
def D7 (Wk:WK) (cur:Nat) (laid:bq):bq:=match Wk with|some q=>(q.1,cur)::laid|none=>laid
theorem CE {Wk:WK} {new:Nat} {us:List Up} {v:SV} {k:Nat} (hk:∀l,Wk≠some (k,l)):gL g (oY g Wk new us v) [k]:=by
 cases Wk with
 |none=>exact fun _ _=>⟨rfl,rfl,rfl⟩
 |some q=>
  show gL g (if dt new us=true then g.at q.1 new (CD v) else g) [k]
  split
  ·exact PK fun e=>hk q.2 (by rw[e])
  ·exact fun _ _=>⟨rfl,rfl,rfl⟩
theorem Xh {Wk:WK} {new:Nat} {us:List Up} {k:Nat} (hk:dt new us=false∨∀l,Wk≠some (k,l)):nK φ Wk new us k=φ k:=by
 cases Wk with
 |none=>rfl
 |some q=>
  show (if dt new us=true then fun k=>if k=q.1 then [new] else φ k else φ) k=φ k
  rcases hk with hk|hk
  ·rw[hk];rfl
  ·split
   ·exact if_neg fun e=>hk q.2 (by rw[e])
   ·rfl
theorem Ji {Wk:WK} {new:Nat} {us:List Up} {k i:Nat} (hi:i∈nK φ Wk new us k):(i=new∧dt new us=true∧∃l,Wk=some (k,l))∨(i∈φ k∧(dt new us=false∨∀l,Wk≠some (k,l))):=by
 cases Wk with
 |none=>exact .inr ⟨hi,.inr fun l hl=>by cases hl⟩
 |some q=>
  have hi:i∈(if dt new us=true then fun k=>if k=q.1 then [new] else φ k else φ) k:=hi
  split at hi
  ·rename_i hn;by_cases hk:k=q.1
   ·rw[show (fun k=>if k=q.1 then [new] else φ k) k= [new] from if_pos hk] at hi
    exact .inl ⟨List.mem_singleton.1 hi,hn,q.2,by rw[hk]⟩
   ·rw[show (fun k=>if k=q.1 then [new] else φ k) k=φ k from if_neg hk] at hi
    exact .inr ⟨hi,.inr fun l hl=>hk (by cases hl;rfl)⟩
  ·rename_i hn;exact .inr ⟨hi,.inl (by cases hx:dt new us with|false=>rfl|true=>exact absurd hx hn)⟩
theorem mb {Wk:WK} {k:Nat} {b:Bx} (h:lk k (s.ny Wk).bs=some b):(∀l,Wk≠some (k,l))∧∃b0,lk k s.bs=some b0:=by
 cases Wk with
 |none=>exact ⟨fun l hl=>(by cases hl),b,h⟩
 |some q=>
  obtain ⟨h1,b0,h2,_⟩:=Cn (s:=s) (K:=q.1) h;exact ⟨fun l hl=>h1 (by cases hl;rfl),b0,h2⟩
theorem Uf (r:Rel B F g φ s tm.get h) (Wk:WK):Rel B F g φ (s.ny Wk) tm.get h:=by
 cases Wk with
 |none=>exact r
 |some q=>exact IB r q.1
theorem Dh {Wk:WK} {k:Nat} {b:Bx} (h1:∀l,Wk≠some (k,l)) (h2:lk k s.bs=some b):∃b',lk k (s.ny Wk).bs=some b':=by
 cases Wk with
 |none=>exact ⟨b,h2⟩
 |some q=>
  have hne:k≠q.1:=fun e=>h1 q.2 (by rw[e])
  show ∃b',lk k (cJ q.1 (s.bs.map fun p=>(p.1,p.2.dH q.1)))=some b'
  rw[dZ,if_neg hne,gV,h2];exact ⟨_,rfl⟩
theorem zG {Wk:WK} {K:Nat} {l:Bool} (h:Wk=some (K,l)):(s.ny Wk).free K:=by
 subst h;exact Dg s K
theorem eK {d:Option Nat} {x:AV}:(s.aS d x).bs=s.bs:=by cases d<;>rfl
theorem Ct {α:Type} {l l':List α} (h:l'.length=l.length) {j:Nat} {x:α} (hx:l'[j]? =some x):∃y,l[j]? =some y:=by
 have:=(List.getElem?_eq_some_iff.1 hx).1;exact ⟨_,List.getElem?_eq_some_iff.2 ⟨by omega,rfl⟩⟩
theorem DR.op (D:DR B base W cur nc vs laid pp g φ Fs lim tm.get h) {o:Oper} {m l:Nat} {x:AV} {Wk:WK} {sl:LS} {rk:List Nat} (eO:cur<W) (hl:vs[l]? =some sl) (hlen:vs'.length=vs.length)
  (hOK:∀j s,vs[j]? =some s→l≤j→∃t,vs'[j]? =some (t.aS o.dst x)∧aN E B o.op s t x Wk) (Co:∀j s,vs[j]? =some s→j<l→vs'[j]? =some ((s.ny Wk).aS o.dst .undef))
  (hrk:rf sl.ts sl.bs o.op=some rk) (mz:∀k j,(k∈rk∨k∈kg Wk)→(k,j)∈laid→df m j=true) (qz:∀q∈pp,wM l m rk (kg Wk) false (tF Wk) q.2):
  ∃v us,opA E o.op tm.get h.hp.get (base+cur)=some (v,us)∧cK m ⟨cur,false,dS o.op tm.get,fN (base+cur) us,base+cur,base+cur+1⟩ (pp.map (·.1))=true∧
   ∃g' φ',DR B base W (cur+1) nc vs' (D7 Wk cur laid) ((⟨cur,false,dS o.op tm.get,fN (base+cur) us,base+cur,base+cur+1⟩,⟨cur,0,rk,kg Wk,tF Wk⟩)::pp) g' φ' Fs lim (aS tm o.dst v).get (h.ups us):=by
 generalize ea:base+cur=new;have ji:h.hp.get new=none:=by rw[←ea];exact D.em cur (Nat.le_refl _) eO
 have hlo:B.nx≤new:=by have:=D.bn;omega
 obtain ⟨tl,tl1,tl2⟩:=hOK l sl hl (Nat.le_refl _);have rl:=D.r l sl hl;obtain ⟨v,us,o1,o2,o3,o4,o5,o6⟩:=tl2.go rl ji hlo;have hU:Upd h us new (h.ups us)∨(us= []∧h.ups us=h):=.inl ⟨fun _=>rfl,by rw[n8];exact Nat.le_refl _,by rw[n8];have:=D.hx;omega,fun y hy=>hy⟩
 have hnx:(h.ups us).nx=h.nx:=n8 us h;have hw:∀id∈fN new us,∃k∈kg Wk,∃b,lk k sl.bs=some b∧id∈φ k:=fun id hid=>by
  obtain ⟨h1,u,h2,h3⟩:=rM hid;rcases o4 u h2 with c|⟨K,b,c1,c2,c3⟩
  ·exact absurd (h3.symm.trans c) h1
  ·rw[c1];exact ⟨K,by simp[kg],b,c2,by rw[←h3];exact c3⟩
 have hrd:∀id∈dS o.op tm.get,(∃o,Fs l id=some o)∨∃k∈rk,∃b,lk k sl.bs=some b∧id∈φ k:=fun id hid=>N8 rl hrk id hid
 have hwn:tF Wk=true→fN new us= []:=fun hn=>Ve fun u hu=>(o4 u hu).elim (fun c=>c) fun ⟨K,b,c1,_⟩=>by rw[c1] at hn;cases hn
 refine ⟨v,us,o1,D.indep (rk:=rk) (wk:=kg Wk) (wn:=tF Wk) eO hl hrd hw (fun id h1 h2=>.inl (by
  have h1:new≤id:=h1;have h2:id<new+1:=h2;omega)) mz hwn qz,oY g Wk new us v,nK φ Wk new us,?_⟩
 have OK:∀(j:Nat) (s:LS),vs[j]? =some s→∀i,((∃o,Fs j i=some o)∨∃k b,(∀l,Wk≠some (k,l))∧lk k s.bs=some b∧i∈φ k)→∀u∈us,u.1≠i:=fun j s hj i hi u hu e=>by
  have hcom:∃t st,vs[t]? =some st∧j≤t∧l≤t:=by
   rcases Nat.le_total j l with c|c
   ·exact ⟨l,sl,hl,c,Nat.le_refl _⟩
   ·exact ⟨j,s,hj,Nat.le_refl _,c⟩
  obtain ⟨t,st,ht,t1,t2⟩:=hcom;have rt:=D.r t st ht;rcases o4 u hu with c|⟨K,b,c1,c2,c3⟩
  ·rw[e] at c;rcases hi with ⟨o,ho⟩|⟨k,b,_,hb,hi⟩
   ·rw[c] at ho;have:=(D.r j s hj).sub new o ho;rw[ji] at this;cases this
   ·exact ((D.r j s hj).bx k b hb).there i hi (by rw[c];exact ji)
  ·obtain ⟨b',hb'⟩:=(D.up l t sl st t2 hl ht).2 K b c2;rw[e] at c3;rcases hi with ⟨o,ho⟩|⟨k,b1,hk,hb,hi⟩
   ·have:=(D.up j t s st t1 hj ht).1 i o ho;rw[rt.nf K b' hb' i c3] at this;cases this
   ·obtain ⟨b2,hb2⟩:=(D.up j t s st t1 hj ht).2 k b1 hb;exact rt.dj k K b2 b' hb2 hb' (fun e=>hk false (by rw[e];exact c1)) i hi c3
 have sep:∀(j:Nat) (s:LS),vs[j]? =some s→∀i,((∃o,Fs j i=some o)∨∃k b,(∀l,Wk≠some (k,l))∧lk k s.bs=some b∧i∈φ k)→(h.ups us).hp.get i=h.hp.get i:=fun j s hj i hi=>rO us (fun u hu=>OK j s hj i hi u hu) h
 have seen:∀{j:Nat} {s':LS},vs'[j]? =some s'→∃s,vs[j]? =some s∧(∀k b,lk k s'.bs=some b→(∃b,lk k s.bs=some b)∨(dt new us=true∧∃l,Wk=some (k,l)))∧(j<l→∀k b,lk k s'.bs=some b→∀l,Wk≠some (k,l)):=fun {j s'} hj'=>by
  obtain ⟨s,hj⟩:=Ct hlen hj';refine ⟨s,hj,?_⟩;rcases Nat.lt_or_ge j l with c|c
  ·have:=Co j s hj c;rw[hj'] at this;cases this;refine ⟨fun k b hb=> ?_,fun _ k b hb=> ?_⟩
   ·rw[eK] at hb;exact .inl (mb hb).2
   ·rw[eK] at hb;exact (mb hb).1
  ·obtain ⟨t,e1,e2⟩:=hOK j s hj c;rw[hj'] at e1;cases e1;obtain ⟨v',us',p1,p2,p3,p4,p5,p6⟩:=e2.go (D.r j s hj) ji hlo;rw[o1] at p1;cases p1;refine ⟨fun k b hb=> ?_,fun hc=>by omega⟩
   rw[eK] at hb;exact p5 k b hb
 have same:∀{j1:Nat} {s1:LS} {k1:Nat} {b1:Bx} {j2:Nat} {s2:LS} {k2:Nat} {b2:Bx} {i:Nat},vs[j1]? =some s1→lk k1 s1.bs=some b1→i∈φ k1→vs[j2]? =some s2→lk k2 s2.bs=some b2→i∈φ k2→k1=k2:=fun {j1 s1 k1 b1 j2 s2 k2 b2 i} h1 h2 h3 h4 h5 h6=>by
  rcases Nat.le_total j1 j2 with c|c
  ·obtain ⟨b,hb⟩:=(D.up j1 j2 s1 s2 c h1 h4).2 k1 b1 h2;exact Classical.byContradiction fun hne=>(D.r j2 s2 h4).dj k1 k2 b b2 hb h5 hne i h3 h6
  ·obtain ⟨b,hb⟩:=(D.up j2 j1 s2 s1 c h4 h1).2 k2 b2 h5;exact Classical.byContradiction fun hne=>(D.r j1 s1 h1).dj k1 k2 b1 b h2 hb hne i h3 h6
 have noF:∀{j1:Nat} {s1:LS} {o:SO} {j2:Nat} {s2:LS} {k2:Nat} {b2:Bx} {i:Nat},vs[j1]? =some s1→Fs j1 i=some o→vs[j2]? =some s2→lk k2 s2.bs=some b2→i∈φ k2→False:=fun {j1 s1 o j2 s2 k2 b2 i} h1 h2 h4 h5 h6=>by
  rcases Nat.le_total j1 j2 with c|c
  ·have:=(D.up j1 j2 s1 s2 c h1 h4).1 i o h2;rw[(D.r j2 s2 h4).nf k2 b2 h5 i h6] at this;cases this
  ·obtain ⟨b,hb⟩:=(D.up j2 j1 s2 s1 c h4 h1).2 k2 b2 h5;rw[(D.r j1 s1 h1).nf k2 b hb i h6] at h2;cases h2
 have r2:∀(j:Nat) (s':LS),vs'[j]? =some s'→Rel B (Fs j) (oY g Wk new us v) (nK φ Wk new us) s' (aS tm o.dst v).get (h.ups us):=fun j s' hj'=>by
  obtain ⟨s,hj⟩:=Ct hlen hj';rcases Nat.lt_or_ge j l with c|c
  ·have:=Co j s hj c;rw[hj'] at this;cases this;refine Rel.aS ?_ (fun hc=>absurd rfl hc)
   refine (Uf (D.r j s hj) Wk).PJ (o3 _ hU) (fun id o ho=>sep j s hj id (.inl ⟨o,ho⟩)) (fun k b hb i hi=> ?_) (fun k b hb=>Xh (.inr (mb hb).1)) (fun t y hy=> ?_) fun k b hb=>⟨CE (mb hb).1,?_⟩
   ·obtain ⟨c1,b0,c2⟩:=mb hb;exact sep j s hj i (.inr ⟨k,b0,c1,c2,hi⟩)
   ·intro k hk;refine CE (k:=k) (fun l hl=> ?_) k (by simp)
    exact (zG (s:=s) hl).1 t y hy hk
   ·intro k' hk';refine CE (k:=k') (fun l hl=> ?_) k' (by simp)
    exact (zG (s:=s) hl).2 k b (fun e=>(mb hb).1 l (by rw[e];exact hl)) hb hk'
  ·obtain ⟨t,e1,e2⟩:=hOK j s hj c;rw[hj'] at e1;cases e1;obtain ⟨v',us',p1,p2,p3,p4,p5,p6⟩:=e2.go (D.r j s hj) ji hlo;rw[o1] at p1;cases p1;exact (p3 _ hU).aS fun _=>p2
 refine ⟨r2,fun j j' s s' hjj hj hj'=> ?_,fun j s' hj' id o ho=> ?_,fun j s' hj' k b hb i hi=> ?_,fun j s' hj'=> ?_,by rw[hlen];exact D.top,by rw[hnx];exact D.hx,fun q hq hq'=> ?_,D.bn,fun q hq=> ?_,fun q hq id hid=> ?_,fun q hq j s' hj' k b hb i hi=> ?_,fun q hq i hi j s' hj'=> ?_,fun q hq hn=> ?_⟩
 ·obtain ⟨s0,a1,a2,a3⟩:=seen hj;obtain ⟨s0',b1,b2,b3⟩:=seen hj';refine ⟨(D.up j j' s0 s0' hjj a1 b1).1,fun k b hb=> ?_⟩
  rcases Nat.lt_or_ge j' l with c|c
  ·have e0:=Co j' s0' b1 c;rw[hj'] at e0;cases e0;have hne:=a3 (by omega) k b hb
   rcases a2 k b hb with ⟨b',hb'⟩|⟨_,l',hl'⟩
   ·obtain ⟨b2',hb2'⟩:=(D.up j j' s0 s0' hjj a1 b1).2 k b' hb';rw[eK];exact Dh hne hb2'
   ·exact absurd hl' (hne l')
  ·obtain ⟨t,e1,e2⟩:=hOK j' s0' b1 c;rw[hj'] at e1;cases e1;obtain ⟨v',us',p1,p2,p3,p4,p5,p6⟩:=e2.go (D.r j' s0' b1) ji hlo;rw[eK];rcases a2 k b hb with ⟨b',hb'⟩|⟨_,l',hl'⟩
   ·exact p6 k (.inl ((D.up j j' s0 s0' hjj a1 b1).2 k b' hb'))
   ·exact p6 k (.inr ⟨l',hl'⟩)
 ·obtain ⟨s,hj⟩:=Ct hlen hj';exact D.fb j s hj id o ho
 ·obtain ⟨s0,a1,a2,a3⟩:=seen hj';rcases Ji hi with ⟨c1,c2,l',c3⟩|⟨c1,c2⟩
  ·refine .inr (.inr ⟨cur,?_,Nat.lt_succ_self _,by rw[c1,ea]⟩)
   rw[c3];exact List.mem_cons_self
  ·have hs:∃b,lk k s0.bs=some b:=by
    rcases a2 k b hb with c|⟨d1,l',d2⟩
    ·exact c
    ·rcases c2 with c2|c2
     ·rw[c2] at d1;cases d1
     ·exact absurd d2 (c2 l')
   obtain ⟨b0,hb0⟩:=hs;rcases D.bb j s0 a1 k b0 hb0 i c1 with d|d|⟨q,d1,d2,d3⟩
   ·exact .inl d
   ·exact .inr (.inl d)
   ·refine .inr (.inr ⟨q,?_,by omega,d3⟩)
    unfold D7;split
    ·exact List.mem_cons_of_mem _ d1
    ·exact d1
 ·obtain ⟨s,hj⟩:=Ct hlen hj';rw[hnx];exact D.lm j s hj
 ·have hq0:h.hp.get (base+q)=none:=D.em q (by omega) hq'
  rw[rO us (fun u hu e=> ?_) h]
  ·exact hq0
  ·rcases o4 u hu with c|⟨K,b,_,c2,c3⟩
   ·omega
   ·rw[e] at c3;exact (rl.bx K b c2).there _ c3 hq0
 ·rcases List.mem_cons.1 hq with rfl|hq
  ·exact ⟨rfl,Nat.lt_succ_self _,Nat.zero_le _,fun _=>⟨rfl,ea.symm,by show new+1=base+cur+1;omega⟩,fun hc=>absurd rfl hc⟩
  ·obtain ⟨p1,p2,p3,p4,p5⟩:=D.pi q hq;refine ⟨p1,by omega,p3,p4,fun hn=> ?_⟩
   obtain ⟨a1,a2,a3,a4⟩:=p5 hn;refine ⟨a1,a2,by rw[hnx];exact a3,fun j s' hj' hlt=> ?_⟩
   obtain ⟨s,hj⟩:=Ct hlen hj';exact a4 j s hj hlt
 ·rw[hnx];rcases List.mem_cons.1 hq with rfl|hq
  ·have m6:=D.lm l sl hl;have hid:(∃o,Fs l id=some o)∨∃k b,lk k sl.bs=some b∧id∈φ k:=by
    rcases hid with c|c
    ·rcases hrd id c with c|⟨k,_,b,c1,c2⟩
     ·exact .inl c
     ·exact .inr ⟨k,b,c1,c2⟩
    ·obtain ⟨k,_,b,c1,c2⟩:=hw id c;exact .inr ⟨k,b,c1,c2⟩
   rcases hid with ⟨o,ho⟩|⟨k,b,c1,c2⟩
   ·rcases D.fb l sl hl id o ho with d|d
    ·exact .inl d
    ·exact .inr (.inl (by omega))
   ·rcases D.bb l sl hl k b c1 id c2 with d|d|⟨q,d1,d2,d3⟩
    ·exact .inl d
    ·exact .inr (.inl (by omega))
    ·exact .inr (.inr ⟨q,(show q≤cur by omega),d3⟩)
  ·exact D.po q hq id hid
 ·obtain ⟨s0,a1,a2,a3⟩:=seen hj';have hs:(i=new)∨(i∈φ k∧∃b,lk k s0.bs=some b):=by
   rcases Ji hi with ⟨c1,_⟩|⟨c1,c2⟩
   ·exact .inl c1
   ·refine .inr ⟨c1,?_⟩;rcases a2 k b hb with c|⟨d1,l',d2⟩
    ·exact c
    ·rcases c2 with c2|c2
     ·rw[c2] at d1;cases d1
     ·exact absurd d2 (c2 l')
  rcases List.mem_cons.1 hq with rfl|hq
  ·refine ⟨fun hr=> ?_,fun hr=> ?_⟩
   ·rcases hrd i hr with ⟨o,ho⟩|⟨k0,hk0,b0,c1,c2⟩
    ·rcases hs with rfl|⟨c1,b0,c2⟩
     ·rw[rl.sub _ o ho] at ji;cases ji
     ·exact (noF hl ho a1 c2 c1).elim
    ·rcases hs with rfl|⟨d1,b1,d2⟩
     ·exact absurd ji ((rl.bx k0 b0 c1).there _ c2)
     ·rw[same a1 d2 d1 hl c1 c2];exact hk0
   ·obtain ⟨k0,hk0,b0,c1,c2⟩:=hw i hr;rcases hs with rfl|⟨d1,b1,d2⟩
    ·exact absurd ji ((rl.bx k0 b0 c1).there _ c2)
    ·rw[same a1 d2 d1 hl c1 c2];exact hk0
  ·rcases hs with e|⟨d1,b1,d2⟩
   ·obtain ⟨p1,p2,_⟩:=D.pi q hq;have hno:¬(i∈q.1.rd∨i∈q.1.wr):=fun hc=>by
     have:=D.hx;rcases D.po q hq i hc with d|d|⟨j',d1,d2⟩<;>omega
    exact ⟨fun hc=>absurd (.inl hc) hno,fun hc=>absurd (.inr hc) hno⟩
   ·exact D.pr q hq j s0 a1 k b1 d2 i d1
 ·obtain ⟨s0,hj⟩:=Ct hlen hj';rcases List.mem_cons.1 hq with rfl|hq
  ·obtain ⟨k0,hk0,b0,c1,c2⟩:=hw i hi;cases hf:Fs j i with
   |none=>rfl
   |some o=>exact (noF hj hf hl c1 c2).elim
  ·exact D.pf q hq i hi j s0 hj
 ·rcases List.mem_cons.1 hq with rfl|hq
  ·exact hwn hn
  ·exact D.pw q hq hn
end Go.Sim
end
noncomputable section
namespace Go.Sim
variable {F F':Hf} {g g':Gb} {B:Bs} {φ:Nat→List Nat} {s s' s1:LS} {tm:Tr SV} {h:Hs} {hp:Hf} {E:Env} {nt:Nat}
variable {base W cur nc:Nat} {vs vs':List LS} {laid:bq} {pp:List (Rc×PI)} {Fs:Nat→Hf} {lim:Nat→Nat}
theorem DR.skip (D:DR B base W cur nc vs laid pp g φ Fs lim tm.get h) {d:Option Nat} {m:Nat} (eO:cur<W):
  cK m ⟨cur,false,[],[],base+cur,base+cur+1⟩ (pp.map (·.1))=true∧DR B base W (cur+1) nc (vs.map fun s=>s.aS d (.tup [])) laid ((⟨cur,false,[],[],base+cur,base+cur+1⟩,⟨cur,0,[],[],true⟩)::pp) g φ Fs lim (aS tm d (.tup [])).get h:=by
 have hlt:0<vs.length:=by rw[D.top];omega
 have hl:vs[0]? =some vs[0]:=List.getElem?_eq_getElem hlt;have back:∀{j:Nat} {s':LS},(vs.map fun s=>s.aS d (.tup []))[j]? =some s'→∃s,vs[j]? =some s∧s'=s.aS d (.tup []):=fun {j s'} hj=>by
  rw[List.getElem?_map] at hj;obtain ⟨s,hs,rfl⟩:=Option.map_eq_some_iff.1 hj;exact ⟨s,hs,rfl⟩
 refine ⟨?_,fun j s' hj=> ?_,fun j j' s s' hjj hj hj'=> ?_,fun j s' hj=> ?_,fun j s' hj k b hb i hi=> ?_,fun j s' hj=> ?_,by rw[List.length_map];exact D.top,D.hx,fun q hq hq'=>D.em q (by omega) hq',D.bn,fun q hq=> ?_,fun q hq id hid=> ?_,fun q hq j s' hj k b hb i hi=> ?_,fun q hq i hi j s' hj=> ?_,fun q hq hn=> ?_⟩
 ·refine D.indep (l:=0) (rk:= []) (wk:= []) (wn:=true) eO hl (fun id hid=>by cases hid) (fun id hid=>by cases hid) (fun id h1 h2=>.inl ?_) (fun k j hk=>by rcases hk with c|c<;>cases c) (fun _=>rfl) fun q hq=> ?_
  ·have h1:base+cur≤id:=h1;have h2:id<base+cur+1:=h2;omega
  ·exact .inr ⟨fun hn=>⟨by omega,rfl,rfl⟩,fun hc=>(by cases hc),fun k hk=>(by cases hk),fun k hk=>by cases hk⟩
 ·obtain ⟨s,hs,rfl⟩:=back hj;exact (D.r j s hs).aS fun _=>.tup .nil
 ·obtain ⟨s0,hs,rfl⟩:=back hj;obtain ⟨s0',hs',rfl⟩:=back hj';obtain ⟨a,b⟩:=D.up j j' s0 s0' hjj hs hs';exact ⟨a,fun k b' hb=>by rw[eK] at hb ⊢;exact b k b' hb⟩
 ·obtain ⟨s,hs,rfl⟩:=back hj;exact D.fb j s hs
 ·obtain ⟨s,hs,rfl⟩:=back hj;rw[eK] at hb;rcases D.bb j s hs k b hb i hi with c|c|⟨q,c1,c2,c3⟩
  ·exact .inl c
  ·exact .inr (.inl c)
  ·exact .inr (.inr ⟨q,c1,by omega,c3⟩)
 ·obtain ⟨s,hs,rfl⟩:=back hj;exact D.lm j s hs
 ·rcases List.mem_cons.1 hq with rfl|hq
  ·exact ⟨rfl,Nat.lt_succ_self _,Nat.zero_le _,fun _=>⟨rfl,rfl,rfl⟩,fun hc=>absurd rfl hc⟩
  ·obtain ⟨p1,p2,p3,p4,p5⟩:=D.pi q hq;refine ⟨p1,by omega,p3,p4,fun hn=> ?_⟩
   obtain ⟨a1,a2,a3,a4⟩:=p5 hn;exact ⟨a1,a2,a3,fun j s' hj hlt=>by obtain ⟨s,hs,rfl⟩:=back hj;exact a4 j s hs hlt⟩
 ·rcases List.mem_cons.1 hq with rfl|hq
  ·rcases hid with c|c<;>cases c
  ·exact D.po q hq id hid
 ·obtain ⟨s,hs,rfl⟩:=back hj;rw[eK] at hb;rcases List.mem_cons.1 hq with rfl|hq
  ·exact ⟨fun hc=>(by cases hc),fun hc=>by cases hc⟩
  ·exact D.pr q hq j s hs k b hb i hi
 ·obtain ⟨s,hs,rfl⟩:=back hj;rcases List.mem_cons.1 hq with rfl|hq
  ·cases hi
  ·exact D.pf q hq i hi j s hs
 ·rcases List.mem_cons.1 hq with rfl|hq
  ·rfl
  ·exact D.pw q hq hn
def LS.su (s:LS):List Nat→LS
 | []=>s
 |k::ks=>(s.kI k).su ks
theorem OJ {K K':Nat} (hf:s.free K):(s.kI K').free K:=by
 refine ⟨fun t x hx hc=> ?_,fun k b hne hb hc=> ?_⟩
 ·obtain ⟨y,hy,rfl⟩:=aaw hx;unfold gY at hc;rw[ax] at hc;split at hc
  ·cases hc
  ·exact hf.1 t y hy hc
 ·obtain ⟨_,b0,h0,rfl⟩:=Cn hb;have h2:=hf.2 k b0 hne h0;cases b0 with
  |flat e cs=>
   have key:∀cs:List AV,K∈cE (oP K' cs)→K∈cE cs:=fun cs=>by
    induction cs with
    |nil=>exact fun h=>h
    |cons x l ih=>
     intro h;rcases List.mem_append.1 (show K∈bU (gY K' x)++cE (oP K' l) from h) with h|h
     ·unfold gY at h;rw[ax] at h;split at h
      ·cases h
      ·exact List.mem_append_left _ h
     ·exact List.mem_append_right _ (ih h)
   exact h2 (key cs hc)
  |hole e s0 Q i x=>
   refine h2 ?_;have h:K∈bU (gY K' x):=hc;unfold gY at h;rw[ax] at h;split at h
   ·cases h
   ·exact h
  |_=>cases hc
theorem Di:∀(ks:List Nat) {s:LS},Rel B F g φ s tm.get h→Rel B F g φ (s.su ks) tm.get h
 | [],_,r=>r
 |k::ks,_,r=>Di ks (IB r k)
theorem IC:∀{ks:List Nat} {s:LS} {k:Nat} {b:Bx},lk k (s.su ks).bs=some b→k∉ks∧∃b0,lk k s.bs=some b0
 | [],_,_,b,h=>⟨fun hc=>(by cases hc),b,h⟩
 |K::ks,s,k,b,h=>by
  obtain ⟨h1,b0,h2⟩:=IC (ks:=ks) (s:=s.kI K) h;obtain ⟨h3,b1,h4,_⟩:=Cn h2;exact ⟨fun hc=>(List.mem_cons.1 hc).elim h3 h1,b1,h4⟩
theorem Dj:∀{ks:List Nat} {s:LS} {k:Nat} {b:Bx},k∉ks→lk k s.bs=some b→∃b',lk k (s.su ks).bs=some b'
 | [],_,_,b,_,h=>⟨b,h⟩
 |K::ks,s,k,b,hk,h=>by
  obtain ⟨b',hb'⟩:=Dh (s:=s) (Wk:=some (K,true)) (k:=k) (fun l hl=>hk (by cases hl;exact List.mem_cons_self)) h
  exact Dj (ks:=ks) (s:=s.kI K) (fun hc=>hk (List.mem_cons_of_mem _ hc)) hb'
theorem zH {K:Nat}:∀{ks:List Nat} {s:LS},s.free K→(s.su ks).free K
 | [],_,h=>h
 |k::ks,_,h=>zH (ks:=ks) (OJ h)
theorem zI:∀{ks:List Nat} {s:LS} {K:Nat},K∈ks→(s.su ks).free K
 |k::ks,s,K,h=>by
  rcases List.mem_cons.1 h with rfl|h
  ·exact zH (s:=s.kI K) (Dg s K)
  ·exact zI (s:=s.kI k) h
def LS.uL (s:LS):List Nat→LS
 | []=>s
 |k::ks=>(LS.mk s.ts (cJ k s.bs)).uL ks
theorem uK:∀{ks:List Nat} {s:LS} {k:Nat} {b:Bx},lk k (s.uL ks).bs=some b→k∉ks∧lk k s.bs=some b
 | [],_,_,b,h=>⟨fun hc=>(by cases hc),h⟩
 |K::ks,s,k,b,h=>by
  obtain ⟨h1,h2⟩:=uK (ks:=ks) (s:=LS.mk s.ts (cJ K s.bs)) h;have h2:lk k (cJ K s.bs)=some b:=h2;rw[dZ] at h2;split at h2
  ·cases h2
  ·rename_i hne;exact ⟨fun hc=>(List.mem_cons.1 hc).elim hne h1,h2⟩
theorem zW:∀{ks:List Nat} {s:LS} {k:Nat} {b:Bx},k∉ks→lk k s.bs=some b→lk k (s.uL ks).bs=some b
 | [],_,_,_,_,h=>h
 |K::ks,s,k,b,hk,h=>zW (ks:=ks) (s:=LS.mk s.ts (cJ K s.bs)) (fun hc=>hk (List.mem_cons_of_mem _ hc)) (by
  show lk k (cJ K s.bs)=some b;rw[dZ,if_neg (fun (e:k=K)=>hk (by rw[e];exact List.mem_cons_self))];exact h)
theorem Dv:∀{ks:List Nat} {s:LS},(s.uL ks).ts=s.ts
 | [],_=>rfl
 |K::ks,s=>Dv (ks:=ks) (s:=LS.mk s.ts (cJ K s.bs))
def LS.nA (s:LS) (ps rs:bq):LS:=(s.uL (ps.map (·.1))).su (rs.map (·.1))
theorem Ug (ps rs:bq) {s:LS} (r:Rel B F g φ s tm.get h):Rel B F g φ (s.nA ps rs) tm.get h:=
 Di _ (r.less ⟨fun t y hy=>.inr ⟨y,by rw[Dv] at hy;exact hy,WV.refl y⟩,fun k b hb=>⟨b,(uK hb).2,WB.refl b⟩⟩)
theorem iL {ps rs:bq} {s:LS} {k:Nat} {b:Bx} (h:lk k (s.nA ps rs).bs=some b):k∉(ps++rs).map (·.1)∧∃b0,lk k s.bs=some b0:=by
 obtain ⟨h1,b0,h2⟩:=IC h;obtain ⟨h3,h4⟩:=uK h2;rw[List.map_append];exact ⟨fun hc=>(List.mem_append.1 hc).elim h3 h1,b0,h4⟩
theorem Uh {ps rs:bq} {s:LS} {k:Nat} {b:Bx} (hk:k∉(ps++rs).map (·.1)) (h:lk k s.bs=some b):∃b',lk k (s.nA ps rs).bs=some b':=by
 rw[List.map_append] at hk;exact Dj (fun hc=>hk (List.mem_append_right _ hc)) (zW (fun hc=>hk (List.mem_append_left _ hc)) h)
theorem zJ {ps rs:bq} {s:LS} {q:Nat×Nat} (hq:q∈rs):(s.nA ps rs).free q.1:=zI (List.mem_map.2 ⟨q,hq,rfl⟩)
theorem k9 {n x:Nat}:∀{l acc:List Nat},x∈below n l acc→x∈acc∨(x∈l∧x<n)
 | [],_,hx=>.inl hx
 |y::l,acc,hx=>by
  have hx:x∈sel (Nat.ble (Nat.succ y) n) (below n l (y::acc)) (below n l acc):=hx;rw[ax] at hx;split at hx
  ·rename_i hlt;rcases k9 hx with c|c
   ·rcases List.mem_cons.1 c with rfl|c
    ·exact .inr ⟨by simp,Nat.le_of_ble_eq_true hlt⟩
    ·exact .inl c
   ·exact .inr ⟨List.mem_cons_of_mem _ c.1,c.2⟩
  ·rcases k9 hx with c|c
   ·exact .inl c
   ·exact .inr ⟨List.mem_cons_of_mem _ c.1,c.2⟩
theorem DR.call (D:DR B base W cur nc vs laid pp g φ Fs lim tm.get h) {d:Option Nat} {m f:Nat} {st:LS} {ps rs:bq} {bs bs' ob:List (Nat×Bx)} {xs:List AV} {y:AV} {as:List SV} (eO:cur<W) (hst:vs[nc]? =some st) (hg:nE (ps++rs)=true) (hps:nq st.bs (ps++rs) ps=some bs) (hkb:nw st.bs ps ps=true) (hkx:er ps (cE xs)=true) (has:VAs (Fs nc) g as xs)
  (hrs:∀q∈rs,st.free q.1∧B.pk q.1=false∧lk q.1 st.bs=none) (hc:bR E f bs (gG (fiP (ps++rs)) xs) y bs') (hob:r7 bs' (ps++rs) (ps++rs)=some ob) (hko:nu bs' (ps++rs) (ps++rs)=true) (hky:er (jh (ps++rs)) (bU y)=true)
  (mz:∀k j,k∈ps.map (·.1)→(k,j)∈laid→df m j=true) (qz:∀q∈pp,wM nc m [] (ps.map (·.1)) true false q.2):
  ∃v h2,bt E (.call (.fn (.func f) [] []) as ⟨eN m (pp.map (·.1)) h.hp,h.nx,[]⟩) (.bI [⟨false,v,h2⟩])∧cK m ⟨cur,true,[],below h.nx h2.lg [],h.nx,h2.nx⟩ (pp.map (·.1))=true∧
   ∃g' φ' Fs' Cb,DR B base W (cur+1) (nc+1) ((vs.map fun s=>(s.nA ps rs).aS d .undef)++ [LS.aS ⟨st.ts,ob++st.bs⟩ d (jV (foP (ps++rs)) y)]) laid ((⟨cur,true,[],below h.nx h2.lg [],h.nx,h2.nx⟩,⟨cur,nc+1,[],ps.map (·.1),false⟩)::pp) g' φ' Fs' Cb (aS tm d v).get ⟨dI m h.hp (pp.map (·.1)) h2.hp,h2.nx,below h.nx h2.lg h.lg⟩:=by
 have rt:=D.r nc st hst;have hpm:∀{K k b},(K,k)∈ps→lk K st.bs=some b→K∈ps.map (·.1):=fun h1 _=>List.mem_map.2 ⟨_,h1,rfl⟩
 have OT:∀x,Hid m (pp.map (·.1)) x→∃q∈pp,df m q.2.i=false∧q.2.n=0∧x=base+q.2.i∧q.2.i<cur:=fun x ⟨p,hp,h1,h2⟩=>by
  obtain ⟨q,hq,rfl⟩:=List.mem_map.1 hp;obtain ⟨p1,p2,p3,p4,p5⟩:=D.pi q hq;rw[p1] at h1;have hn:q.2.n=0:=by
   rcases qz q hq with c|⟨c,_⟩
   ·rw[h1] at c;cases c
   ·exact Classical.byContradiction fun hn=>by have:=(c hn).1;omega
  exact ⟨q,hq,h1,hn,by rw[←h2];exact (p4 hn).2.1,p2⟩
 have m6:=D.lm nc st hst;have hnoH:∀{K k b},(K,k)∈ps→lk K st.bs=some b→∀i∈φ K,¬Hid m (pp.map (·.1)) i:=fun {K k b} h1 h2 i hi hc=>by
  obtain ⟨q,hq,b1,b2,b3,b4⟩:=OT i hc;rcases D.bb nc st hst K b h2 i hi with c|c|⟨j,c1,c2,c3⟩
  ·omega
  ·omega
  ·have e:j=q.2.i:=by omega
   have:=mz K j (hpm h1 h2) c1;rw[e,b1] at this;cases this
 obtain ⟨F',g2,φ2,h1,v,go,hv,hr,hF,hFn,hnx1,hlg1,hφn,hgs,OD,hold⟩:=rt.call (hh:=⟨eN m (pp.map (·.1)) h.hp,h.nx,[]⟩) (Hd:=Hid m (pp.map (·.1))) (fun x hx=>(dP _ _ x).2 hx) (fun x hx=>by
  obtain ⟨q,hq,b1,b2,b3,b4⟩:=OT x hx;refine ⟨(dP _ _ x).1 hx,?_,?_,fun K k b m1 m2 hi=>hnoH m1 m2 x hi hx⟩
  ·cases hf:Fs nc x with
   |none=>rfl
   |some o=>rcases D.fb nc st hst x o hf with c|c<;>omega
  ·show x<h.nx;have:=D.hx;omega) rfl hg hps hkb hkx has hrs hc hob hko hky
 have hnx1:h.nx≤h1.nx:=hnx1;generalize hh2:(⟨h1.hp,h1.nx,below h.nx h1.lg []⟩:Hs)=h2 at go;have e1:h2.hp=h1.hp:=by rw[←hh2]
 have e2:h2.nx=h1.nx:=by rw[←hh2]
 have e3:h2.lg=below h.nx h1.lg []:=by rw[←hh2]
 have hwr:∀id∈below h.nx h2.lg [],id<h.nx∧∃k∈ps.map (·.1),∃b,lk k st.bs=some b∧id∈φ k:=fun id hid=>by
  rcases k9 hid with c|⟨c1,c2⟩
  ·cases c
  ·rw[e3] at c1;rcases k9 c1 with c|⟨c3,_⟩
   ·cases c
   ·obtain ⟨K,k,b,d1,d2,d3⟩:=hlg1 id c3 c2;exact ⟨c2,K,hpm d1 d2,b,d2,d3⟩
 have NC:=hr ⟨dI m h.hp (pp.map (·.1)) h2.hp,h2.nx,below h.nx h2.lg h.lg⟩ (fun x hx=>((gR _ _ x).2 hx).trans (by rw[e1])) (fun x hx=>(gR _ _ x).1 hx) e2 (fun x hx=>by
  rcases k9 hx with c|⟨c1,c2⟩
  ·exact .inl c
  ·rw[e3] at c1;rcases k9 c1 with c|⟨c3,_⟩
   ·cases c
   ·exact .inr ⟨c3,c2⟩)
 generalize hh':(⟨dI m h.hp (pp.map (·.1)) h2.hp,h2.nx,below h.nx h2.lg h.lg⟩:Hs)=h' at*
 have nx':h'.nx=h1.nx:=by rw[←hh',←e2]
 have kF:∀x,x<h.nx→(∀K k b,(K,k)∈ps→lk K st.bs=some b→x∉φ K)→h'.hp.get x=h.hp.get x:=fun x hx hno=>by
  rw[←hh'];show (dI m h.hp (pp.map (·.1)) h2.hp).get x=_
  by_cases c:Hid m (pp.map (·.1)) x
  ·exact (gR _ _ x).1 c
  ·rw[(gR _ _ x).2 c,e1,hold x hx hno];exact (dP _ _ x).2 c
 let Fs':Nat→Hf:=fun j=>if j=nc+1 then F' else Fs j
 let Cb:Nat→Nat:=fun j=>if j=nc+1 then h1.nx else lim j
 have Fo:∀{j},j≤nc→Fs' j=Fs j:=fun {j} hj=>if_neg (by omega)
 have Fn:Fs' (nc+1)=F':=if_pos rfl;have lo:∀{j},j≤nc→Cb j=lim j:=fun {j} hj=>if_neg (by omega)
 have ln:Cb (nc+1)=h1.nx:=if_pos rfl;generalize hvs:(vs.map fun s=>(s.nA ps rs).aS d .undef)++ [LS.aS ⟨st.ts,ob++st.bs⟩ d (jV (foP (ps++rs)) y)]=vs2
 have view:∀{j:Nat} {s':LS},vs2[j]? =some s'→(j≤nc∧∃s,vs[j]? =some s∧s'=(s.nA ps rs).aS d .undef)∨(j=nc+1∧s'=LS.aS ⟨st.ts,ob++st.bs⟩ d (jV (foP (ps++rs)) y)):=fun {j s'} hj=>by
  rw[←hvs,List.getElem?_append] at hj;split at hj
  ·rename_i hlt;rw[List.length_map,D.top] at hlt;rw[List.getElem?_map] at hj;obtain ⟨s,hs,rfl⟩:=Option.map_eq_some_iff.1 hj;exact .inl ⟨by omega,s,hs,rfl⟩
  ·rename_i hlt;rw[List.length_map,D.top] at hlt hj;have:j-(nc+1)=0:=by
    have:=(List.getElem?_eq_some_iff.1 hj).1;simp at this;omega
   rw[this] at hj;cases hj;exact .inr ⟨by omega,rfl⟩
 have OB:∀{j:Nat} {s:LS} {k:Nat} {b:Bx},vs[j]? =some s→lk k s.bs=some b→∃b',lk k st.bs=some b':=fun {j s k b} hj hb=>by
  have hle:j≤nc:=by have:=(List.getElem?_eq_some_iff.1 hj).1;rw[D.top] at this;omega
  exact (D.up j nc s st hle hj hst).2 k b hb
 have nal:∀{K:Nat},K∉(ps++rs).map (·.1)→lk K (ps++rs)=none:=fun {K} hK=>by
  cases hl:lk K (ps++rs) with
  |none=>rfl
  |some k=>exact absurd (List.mem_map.2 ⟨_,mI hl,rfl⟩) hK
 have PJ:∀{j:Nat} {s:LS} {k:Nat} {b:Bx} {i:Nat},vs[j]? =some s→k∉(ps++rs).map (·.1)→lk k s.bs=some b→i∈φ k→i<h.nx∧∀K k' b',(K,k')∈ps→lk K st.bs=some b'→i∉φ K:=fun {j s k b i} hj hk hb hi=>by
  obtain ⟨b1,hb1⟩:=OB hj hb;refine ⟨rt.lt hb1 i hi,fun K k' b' m1 m2 hc=>rt.dj k K b1 b' hb1 m2 (fun e=>hk ?_) i hi hc⟩
  rw[e];exact List.mem_map.2 ⟨_,List.mem_append_left _ m1,rfl⟩
 have Ng:∀{k b},lk k (ob++st.bs)=some b→∀i∈φ2 k,(i<h.nx∧∃b,lk k st.bs=some b∧i∈φ k)∨h.nx≤i:=fun hb i hi=>hφn _ _ hb i hi
 have r2:∀(j:Nat) (s':LS),vs2[j]? =some s'→Rel B (Fs' j) g2 φ2 s' (aS tm d v).get h':=fun j s' hj=>by
  rcases view hj with ⟨hle,s,hs,rfl⟩|⟨rfl,rfl⟩
  ·rw[Fo hle];refine Rel.aS ?_ (fun hc=>absurd rfl hc)
   refine (Ug ps rs (D.r j s hs)).PJ NC (fun id o ho=> ?_) (fun k b hb i hi=> ?_) (fun k b hb=>OD k (nal (iL hb).1)) (fun t y hy=> ?_) fun k b hb=>⟨?_,?_⟩
   ·have hot:=(D.up j nc s st hle hs hst).1 id o ho;exact kF id (rt.flt hot) fun K k b m1 m2 hi=>by rw[rt.nf K b m2 id hi] at hot;cases hot
   ·obtain ⟨c1,b0,c2⟩:=iL hb;obtain ⟨d1,d2⟩:=PJ hs c1 c2 hi;exact kF i d1 d2
   ·exact hgs _ fun q hq hc=>(zJ (ps:=ps) (s:=s) hq).1 t y hy hc
   ·exact hgs _ fun q hq hc=>(iL hb).1 (by rw[←List.mem_singleton.1 hc];exact List.mem_map.2 ⟨q,List.mem_append_right _ hq,rfl⟩)
   ·exact hgs _ fun q hq hc=>(zJ (ps:=ps) (s:=s) hq).2 k b (fun e=>(iL hb).1 (by rw[e];exact List.mem_map.2 ⟨q,List.mem_append_right _ hq,rfl⟩)) hb hc
  ·rw[Fn];exact NC.aS fun _=>hv
 refine ⟨v,h2,go,?_,g2,φ2,Fs',Cb,?_⟩
 ·refine D.indep (rk:= []) (wk:=ps.map (·.1)) (wn:=false) eO hst (fun id hid=>by cases hid) (fun id hid=>(hwr id hid).2) (fun id h3 h4=>.inr h3) (fun k j hk=>by
   rcases hk with c|c
   ·cases c
   ·exact mz k j c) (fun hc=>by cases hc) qz
 rw[hh'];refine ⟨r2,fun j j' s s' hjj hj hj'=> ?_,fun j s' hj id o ho=> ?_,fun j s' hj k b hb i hi=> ?_,fun j s' hj=> ?_,by rw[←hvs,List.length_append,List.length_map,D.top];rfl,(by rw[nx'];have:=D.hx;omega),fun q hq hq'=> ?_,D.bn,fun q hq=> ?_,fun q hq id hid=> ?_,fun q hq j s' hj k b hb i hi=> ?_,fun q hq i hi j s' hj=> ?_,fun q hq hn=> ?_⟩
 ·rcases view hj with ⟨a1,s0,a2,rfl⟩|⟨rfl,rfl⟩
  ·rcases view hj' with ⟨b1,s0',b2,rfl⟩|⟨rfl,rfl⟩
   ·rw[Fo a1,Fo b1];obtain ⟨u1,u2⟩:=D.up j j' s0 s0' hjj a2 b2;refine ⟨u1,fun k b hb=> ?_⟩
    rw[eK] at hb ⊢;obtain ⟨c1,b0,c2⟩:=iL hb;obtain ⟨b3,c3⟩:=u2 k b0 c2;exact Uh c1 c3
   ·rw[Fo a1,Fn];refine ⟨(D.up j nc s0 st a1 a2 hst).1.trans hF,fun k b hb=> ?_⟩
    rw[eK] at hb ⊢;obtain ⟨c1,b0,c2⟩:=iL hb;obtain ⟨b3,c3⟩:=OB a2 c2;show ∃b',lk k (ob++st.bs)=some b';rw[uj,c3];cases lk k ob with
    |none=>exact ⟨_,rfl⟩
    |some b4=>exact ⟨_,rfl⟩
  ·rcases view hj' with ⟨b1,s0',b2,rfl⟩|⟨rfl,rfl⟩
   ·omega
   ·exact ⟨Hle.refl _,fun k b hb=>⟨b,hb⟩⟩
 ·rcases view hj with ⟨a1,s0,a2,rfl⟩|⟨rfl,rfl⟩
  ·rw[Fo a1] at ho;rw[lo a1];exact D.fb j s0 a2 id o ho
  ·rw[Fn] at ho;rw[ln];rcases hFn id o ho with c|c
   ·rcases D.fb nc st hst id o c with d|d
    ·exact .inl d
    ·exact .inr (by omega)
   ·have:=NC.flt ho;rw[nx'] at this;have:=D.hx;exact .inr (by omega)
 ·rcases view hj with ⟨a1,s0,a2,rfl⟩|⟨rfl,rfl⟩
  ·rw[lo a1];rw[eK] at hb;obtain ⟨c1,b0,c2⟩:=iL hb;rw[OD k (nal c1)] at hi;rcases D.bb j s0 a2 k b0 c2 i hi with c|c|⟨q,c1,c2,c3⟩
   ·exact .inl c
   ·exact .inr (.inl c)
   ·exact .inr (.inr ⟨q,c1,by omega,c3⟩)
  ·rw[ln];rw[eK] at hb;rcases Ng hb i hi with ⟨c1,b0,c2,c3⟩|c
   ·rcases D.bb nc st hst k b0 c2 i c3 with c|c|⟨q,c4,c5,c6⟩
    ·exact .inl c
    ·exact .inr (.inl (by omega))
    ·exact .inr (.inr ⟨q,c4,by omega,c6⟩)
   ·have:=NC.lt hb i hi;rw[nx'] at this;have:=D.hx;exact .inr (.inl (by omega))
 ·rw[nx'];rcases view hj with ⟨a1,s0,a2,rfl⟩|⟨rfl,rfl⟩
  ·rw[lo a1];have:=D.lm j s0 a2;omega
  ·rw[ln];have:=D.hx;omega
 ·have hq0:h.hp.get (base+q)=none:=D.em q (by omega) hq'
  rw[kF (base+q) (by have:=D.hx;omega) fun K k b m1 m2 hc=>(rt.bx K b m2).there _ hc hq0]
  exact hq0
 ·rcases List.mem_cons.1 hq with rfl|hq
  ·refine ⟨rfl,Nat.lt_succ_self _,Nat.le_refl _,fun hc=>(by cases hc),fun _=>⟨rfl,D.hx,?_,fun j s' hj hlt=> ?_⟩⟩
   ·rw[nx'];exact Nat.le_of_eq e2
   ·rcases view hj with ⟨a1,s0,a2,rfl⟩|⟨rfl,rfl⟩
    ·rw[lo a1];exact (D.lm j s0 a2).2
    ·have hlt:nc+1<nc+1:=hlt;omega
  ·obtain ⟨p1,p2,p3,p4,p5⟩:=D.pi q hq;refine ⟨p1,by omega,by omega,p4,fun hn=> ?_⟩
   obtain ⟨a1,a2,a3,a4⟩:=p5 hn;refine ⟨a1,a2,by rw[nx'];omega,fun j s' hj hlt=> ?_⟩
   rcases view hj with ⟨c1,s0,c2,rfl⟩|⟨rfl,rfl⟩
   ·rw[lo c1];exact a4 j s0 c2 hlt
   ·omega
 ·rw[nx'];rcases List.mem_cons.1 hq with rfl|hq
  ·rcases hid with c|c
   ·cases c
   ·obtain ⟨c0,k,_,b,c1,c2⟩:=hwr id c;rcases D.bb nc st hst k b c1 id c2 with d|d|⟨q,d1,d2,d3⟩
    ·exact .inl d
    ·exact .inr (.inl (by omega))
    ·exact .inr (.inr ⟨q,(show q≤cur by omega),d3⟩)
  ·rcases D.po q hq id hid with c|c|c
   ·exact .inl c
   ·exact .inr (.inl (by omega))
   ·exact .inr (.inr c)
 ·rcases List.mem_cons.1 hq with rfl|hq
  ·refine ⟨fun hc=>(by cases hc),fun hc=> ?_⟩
   obtain ⟨c0,k0,hk0,b0,c1,c2⟩:=hwr i hc;rcases view hj with ⟨a1,s0,a2,rfl⟩|⟨rfl,rfl⟩
   ·rw[eK] at hb;obtain ⟨d1,b1,d2⟩:=iL hb;rw[OD k (nal d1)] at hi;obtain ⟨b2,d3⟩:=OB a2 d2;have e:k=k0:=Classical.byContradiction fun hne=>rt.dj k k0 b2 b0 d3 c1 hne i hi c2
    rw[e];exact hk0
   ·rw[eK] at hb;rcases Ng hb i hi with ⟨_,b1,d2,d3⟩|d
    ·have e:k=k0:=Classical.byContradiction fun hne=>rt.dj k k0 b1 b0 d2 c1 hne i d3 c2
     rw[e];exact hk0
    ·omega
  ·rcases view hj with ⟨a1,s0,a2,rfl⟩|⟨rfl,rfl⟩
   ·rw[eK] at hb;obtain ⟨d1,b1,d2⟩:=iL hb;rw[OD k (nal d1)] at hi;exact D.pr q hq j s0 a2 k b1 d2 i hi
   ·rw[eK] at hb;rcases Ng hb i hi with ⟨_,b1,d2,d3⟩|dge
    ·exact D.pr q hq nc st hst k b1 d2 i d3
    ·have hno:¬(i∈q.1.rd∨i∈q.1.wr):=fun hc=>by
      have:=D.hx;obtain ⟨_,p2,_⟩:=D.pi q hq;rcases D.po q hq i hc with d|d|⟨j',d1,d2⟩<;>omega
     exact ⟨fun hc=>absurd (.inl hc) hno,fun hc=>absurd (.inr hc) hno⟩
 ·rcases List.mem_cons.1 hq with rfl|hq
  ·obtain ⟨c0,k0,hk0,b0,c1,c2⟩:=hwr i hi;rcases view hj with ⟨a1,s0,a2,rfl⟩|⟨rfl,rfl⟩
   ·rw[Fo a1];cases hf:Fs j i with
    |none=>rfl
    |some o=>
     have:=(D.up j nc s0 st a1 a2 hst).1 i o hf;rw[rt.nf k0 b0 c1 i c2] at this;cases this
   ·rw[Fn];cases hf:F' i with
    |none=>rfl
    |some o=>
     rcases hFn i o hf with c|c
     ·rw[rt.nf k0 b0 c1 i c2] at c;cases c
     ·omega
  ·rcases view hj with ⟨a1,s0,a2,rfl⟩|⟨rfl,rfl⟩
   ·rw[Fo a1];exact D.pf q hq i hi j s0 a2
   ·rw[Fn];cases hf:F' i with
    |none=>rfl
    |some o=>
     rcases hFn i o hf with c|c
     ·rw[D.pf q hq i hi nc st hst] at c;cases c
     ·have:=D.hx;obtain ⟨_,p2,_⟩:=D.pi q hq;rcases D.po q hq i (.inr hi) with d|d|⟨j',d1,d2⟩<;>omega
 ·rcases List.mem_cons.1 hq with rfl|hq
  ·cases hn
  ·exact D.pw q hq hn
end Go.Sim
end
noncomputable section
namespace Go.Sim
variable {F F':Hf} {g g':Gb} {B:Bs} {φ:Nat→List Nat} {s s' s1:LS} {tm:Tr SV} {h:Hs} {hp:Hf} {E:Env} {nt:Nat}
variable {W cur nc M:Nat} {vs vs':List LS} {laid:bq} {pis:List PI} {all l:List Oper} {o:Oper}
def db (E:Env) (nt:Nat) (B:Bs) (all:List Oper) (W cur nc M:Nat) (vs:List LS) (laid:bq) (pis:List PI) (l:List Oper) (s':LS):Prop:=
 ∀{base:Nat} {pp:List (Rc×PI)} {g:Gb} {φ:Nat→List Nat} {Fs:Nat→Hf} {lim:Nat→Nat} {tm:Tr SV} {h:Hs},pp.map (·.2)=pis→DR B base W cur nc vs laid pp g φ Fs lim tm.get h→∃F' g' φ' tm' h',Rel B F' g' φ' s' (Tr.get tm') h'∧bt E (.draw nt W all base cur M (pp.map (·.1)) l tm h) (.st tm' h')
theorem db.nil (hs:vs[nc]? =some s'):db E nt B all W cur nc M vs laid pis [] s':=fun {base pp g φ Fs lim tm h} _ D=>⟨Fs nc,g,φ,tm,h,D.r nc s' hs,.aaC⟩
theorem db.skip {st:LS} (eO:cur<W) (hd:(bS nt o.dst&&eZ cur (cY o))=true) (hst:vs[nc]? =some st) (hw:iB all o st.ts=some false)
  (hl:db E nt B all W (cur+1) nc (lr W M cur (cn W M o)) (vs.map fun s=>s.aS o.dst (.tup [])) laid (⟨cur,0,[],[],true⟩::pis) l s'):db E nt B all W cur nc M vs laid pis (o::l) s':=fun {base pp g φ Fs lim tm h} hp D=>by
 obtain ⟨hi,D2⟩:=D.skip (d:=o.dst) (m:=cn W M o) eO;obtain ⟨F',g',φ',tm',h',r',go⟩:=hl (by rw[List.map_cons,hp]) D2
 exact ⟨F',g',φ',tm',h',r',.W7 hd (nV (D.r nc st hst) hw) hi go⟩
theorem db.op {x:AV} {Wk:WK} {st sl:LS} {rk:List Nat} {v:Nat} (eO:cur<W) (hd:(bS nt o.dst&&eZ cur (cY o))=true) (hst:vs[nc]? =some st) (hw:iB all o st.ts=some true) (hc:da o.op=none) (hl:vs[v]? =some sl) (hlen:vs'.length=vs.length)
  (hOK:∀j s,vs[j]? =some s→v≤j→∃t,vs'[j]? =some (t.aS o.dst x)∧aN E B o.op s t x Wk) (Co:∀j s,vs[j]? =some s→j<v→vs'[j]? =some ((s.ny Wk).aS o.dst .undef))
  (hrk:rf sl.ts sl.bs o.op=some rk) (mz:∀k j,(k∈rk∨k∈kg Wk)→(k,j)∈laid→df (cn W M o) j=true) (qz:∀q∈pis,wM v (cn W M o) rk (kg Wk) false (tF Wk) q)
  (hn:db E nt B all W (cur+1) nc (lr W M cur (cn W M o)) vs' (D7 Wk cur laid) (⟨cur,0,rk,kg Wk,tF Wk⟩::pis) l s'):db E nt B all W cur nc M vs laid pis (o::l) s':=fun {base pp g φ Fs lim tm h} hp D=>by
 obtain ⟨u,us,o1,o2,g',φ',D2⟩:=D.op eO hl hlen hOK Co hrk mz fun q hq=>qz q.2 (by rw[←hp];exact List.mem_map.2 ⟨q,hq,rfl⟩)
 obtain ⟨F2,g2,φ2,tm',h',r',go⟩:=hn (by rw[List.map_cons,hp]) D2
 exact ⟨F2,g2,φ2,tm',h',r',.aaA hd (nV (D.r nc st hst) hw) hc o1 o2 go⟩
theorem db.call {c:Call} {w:Operand} {f:Nat} {st:LS} {ps rs:bq} {bs bs' ob:List (Nat×Bx)} {xs:List AV} {y:AV} (eO:cur<W) (hd:(bS nt o.dst&&eZ cur (cY o))=true) (hst:vs[nc]? =some st) (hw:iB all o st.ts=some true) (hc:da o.op=some c) (hf:c.callee= .value w) (hfv:aI st.ts w= .fn f [] []) (hxs:fO st.ts c.args.toList=xs) (hu:eo xs=true)
  (hg:nE (ps++rs)=true) (hps:nq st.bs (ps++rs) ps=some bs) (hkb:nw st.bs ps ps=true) (hkx:er ps (cE xs)=true) (hrs:∀q∈rs,st.free q.1∧B.pk q.1=false∧lk q.1 st.bs=none) (hC:bR E f bs (gG (fiP (ps++rs)) xs) y bs') (hob:r7 bs' (ps++rs) (ps++rs)=some ob) (hko:nu bs' (ps++rs) (ps++rs)=true) (hky:er (jh (ps++rs)) (bU y)=true)
  (mz:∀k j,k∈ps.map (·.1)→(k,j)∈laid→df (cn W M o) j=true) (qz:∀q∈pis,wM nc (cn W M o) [] (ps.map (·.1)) true false q)
  (hn:db E nt B all W (cur+1) (nc+1) (lr W M cur (cn W M o)) ((vs.map fun s=>(s.nA ps rs).aS o.dst .undef)++ [LS.aS ⟨st.ts,ob++st.bs⟩ o.dst (jV (foP (ps++rs)) y)]) laid (⟨cur,nc+1,[],ps.map (·.1),false⟩::pis) l s'):db E nt B all W cur nc M vs laid pis (o::l) s':=fun {base pp g φ Fs lim tm h} hp D=>by
 subst hxs;have rt:=D.r nc st hst;obtain ⟨as,a1,a2⟩:=rt.bF hu;obtain ⟨fv,f1,f2⟩:=rt.val hfv (by simp)
 have ef:fv= .fn (.func f) [] []:=by
  cases f2 with
  |fn _ h1 h2=>cases h1;cases h2;rfl
 subst ef;obtain ⟨u,h2,go,hi,g',φ',Fs',Cb,D2⟩:=D.call (d:=o.dst) (m:=cn W M o) eO hst hg hps hkb hkx a2 hrs hC hob hko hky mz fun q hq=>qz q.2 (by rw[←hp];exact List.mem_map.2 ⟨q,hq,rfl⟩)
 obtain ⟨F2,g2,φ2,tm',h',r',go2⟩:=hn (by rw[List.map_cons,hp]) D2
 exact ⟨F2,g2,φ2,tm',h',r',.Xa hd (nV rt hw) hc (by rw[hf];exact f1) a1 go hi go2⟩
theorem Wk.drawn {id:Nat} {ops:Array Oper} {ks:List KI} {Q:Ex→LS→Prop} (hl:db E nt B ops.toList ops.size 0 0 0 [s] [] [] ops.toList s1) (hk:WkO E nt B .normal ks s1 Q):Wk E nt B (.region id ops true) ks s Q:=fun {F g φ tm h} r=>by
 have view:∀{j:Nat} {s':LS},[s][j]? =some s'→j=0∧s'=s:=fun {j s'} hj=>by
  cases j with
  |zero=>cases hj;exact ⟨rfl,rfl⟩
  |succ j=>simp at hj
 have D:DR B h.nx ops.size 0 0 [s] [] [] g φ (fun _=>F) (fun _=>h.nx+ops.size) tm.get ⟨h.hp,Nat.add h.nx ops.size,h.lg⟩:=by
  have hn:h.nx≤Nat.add h.nx ops.size:=Nat.le_add_right _ _;refine ⟨fun j s' hj=> ?_,fun j j' s1 s2 _ h1 h2=> ?_,fun j s' hj id o ho=>.inl (r.flt ho),fun j s' hj k b hb i hi=> ?_,fun j s' hj=>⟨Nat.le_refl _,Nat.le_refl _⟩,rfl,Nat.le_refl _,fun q _ _=>r.bd _ (Nat.le_add_right _ _),r.nx,fun q hq=>(by cases hq),fun q hq=>(by cases hq),fun q hq=>(by cases hq),fun q hq=>(by cases hq),fun q hq=>(by cases hq)⟩
  ·obtain ⟨_,rfl⟩:=view hj;exact {r with bd:=fun x hx=>r.bd x (Nat.le_trans hn hx),nx:=Nat.le_trans r.nx hn}
  ·obtain ⟨_,rfl⟩:=view h1;obtain ⟨_,rfl⟩:=view h2;exact ⟨Hle.refl _,fun k b hb=>⟨b,hb⟩⟩
  ·obtain ⟨_,rfl⟩:=view hj;exact .inl (r.lt hb i hi)
 obtain ⟨F',g',φ',tm',h',r',go⟩:=hl rfl D;exact ⟨_,_,_,.drawn go,hk r'⟩
end Go.Sim
end
noncomputable section
namespace Go.Sim
variable {F F':Hf} {g g':Gb} {B:Bs} {φ:Nat→List Nat} {s s' s1:LS} {tm:Tf} {h:Hs} {hp:Hf} {E:Env} {nt:Nat} {all l:List Oper}
abbrev Ob:=AV×AV
def cm:List Ob→Prop
 | []=>True
 |p::l=>p.1=p.2∧cm l
def IN:List Ob→List AV
 | []=> []
 |p::l=>p.1::IN l
def Hi:List Ob→List AV
 | []=> []
 |p::l=>p.2::Hi l
theorem H5:∀{l:List Ob},IN l=Hi l→cm l
 | [],_=>trivial
 |p::l,h=>by
  have h:p.1::IN l=p.2::Hi l:=h;injection h with h1 h2
  exact ⟨h1,H5 h2⟩
theorem iw:∀{l m:List Ob},cm (l++m)→cm l∧cm m
 | [],_,h=>⟨trivial,h⟩
 |p::l,m,h=>by
  obtain ⟨h1,h2⟩:=h;obtain ⟨h3,h4⟩:=iw h2;exact ⟨⟨h1,h3⟩,h4⟩
def Ed (K:Nat):List (Nat×AV)→Bool
 | []=>true
 |p::l=>sel (cg K (bU p.2)) false (Ed K l)
def vO (K:Nat):List (Nat×Bx)→Bool
 | []=>true
 |p::l=>sel (Nat.beq p.1 K) (vO K l) (sel (cg K p.2.keys) false (vO K l))
theorem B6 {K:Nat} {l:List Nat} (h:cg K l=false):K∉l:=fun hm=>by
 rw[(dz K l).2 hm] at h;cases h
theorem IP {K:Nat}:∀{ts:List (Nat×AV)},Ed K ts=true→∀t x,lk t ts=some x→K∉bU x
 | [],_,t,x,hx=>by cases hx
 |(k,y)::l,hf,t,x,hx=>by
  have hf:sel (cg K (bU y)) false (Ed K l)=true:=hf;rw[bh] at hx;rw[ax] at hf;split at hf
  ·cases hf
  ·rename_i hm;split at hx
   ·cases hx;exact B6 (by simpa using hm)
   ·exact IP hf t x hx
theorem yb {K:Nat}:∀{bs:List (Nat×Bx)},vO K bs=true→∀k b,k≠K→lk k bs=some b→K∉b.keys
 | [],_,k,b,_,hx=>by cases hx
 |p::l,hf,k,b,hne,hx=>by
  obtain ⟨k',b'⟩:=p;have hf:sel (Nat.beq k' K) (vO K l) (sel (cg K b'.keys) false (vO K l))=true:=hf;rw[bh] at hx;rw[ax] at hf;split at hf
  ·rename_i he;have he:k'=K:=(beq_iff _ _).1 he;rw[if_neg (fun e=>hne (e.trans he))] at hx
   exact yb hf k b hne hx
  ·rw[ax] at hf;split at hf
   ·cases hf
   ·rename_i hm;split at hx
    ·cases hx;exact B6 (by simpa using hm)
    ·exact yb hf k b hne hx
def iU (pks:List Nat) (s:LS) (K:Nat):Bool:=sel (cg K pks) false (sel (Ed K s.ts) (vO K s.bs) false)
theorem kW {pks:List Nat} {K:Nat} (hB:BOK pks B) (hf:iU pks s K=true):s.free K∧B.pk K=false:=by
 unfold iU at hf;rw[ax] at hf;split at hf
 ·cases hf
 ·rename_i h1;rw[ax] at hf;split at hf
  ·rename_i h2;exact ⟨⟨IP h2,yb hf⟩,hB K (by simpa using h1)⟩
  ·cases hf
abbrev Res:=LS×AV×WK×List Ob
def eQ (E:Env) (B:Bs) (op:Op) (s:LS) (r:Res):Prop:=cm r.2.2.2→aN E B op s r.1 r.2.1 r.2.2.1
def ndf (x:AV):Option AV:=sel (n5 x) none (some x)
theorem lZ {x y:AV} (h:ndf x=some y):x=y∧x≠ .undef:=by
 unfold ndf at h;cases hx:n5 x with
 |true=>rw[hx] at h;cases h
 |false=>rw[hx] at h;cases h;exact ⟨rfl,zA hx⟩
def HH (E:Env) (s:LS) (op:Op):Option AV:=
 match op with
 | .move a=>ndf (aI s.ts a)
 | .assign a=>ndf (aI s.ts a)
 | .pick c a b=>(match aI s.ts c with| .bool t=>ndf (aI s.ts (sel t a b))|_=>none)
 | .nilCheck a=>sel (Zg (aI s.ts a)) (some (aI s.ts a)) none
 | .load t a=>ah (E.ty.get t) fun i=>D6 i s.bs (aI s.ts a)
 | .fieldAddr t a f=>ah (rj E t f) fun p=>Uo p (aI s.ts a)
 | .field t a f=>ah (rj E t f) fun p=>(match aI s.ts a with| .agg cs=>gH p.2 cs p.1|_=>none)
 | .extract a i=>(match aI s.ts a with| .tup xs=>xs[i]? |_=>none)
 | .binOp op t a b _=>ah (ndf (aI s.ts b)) fun y=>PA E op t a b (aI s.ts a) y
 | .unOp op _ a=>unL op (aI s.ts a)
 | .convert src dst a=>aE (E.ty.get src) (E.ty.get dst) fun _ i2=>En i2.desc (aI s.ts a)
 | .makeInterface t a=>ah (E.ty.get t) fun i=>sel (vJ i.desc) none (ah (ndf (aI s.ts a)) fun x=>some (.ifc t x))
 | .makeFunc (.func f) a c=>sel (eo (fO s.ts a.toList)) (sel (eo (fO s.ts c.toList)) (some (.fn f (fO s.ts a.toList) (fO s.ts c.toList))) none) none
 | .build t parts=>aE (E.ty.get t) (qU s.ts parts.toList) fun i m=>ah (Jk E (dU i.zero) m i.desc) fun ys=>some (.agg ys)
 |_=>none
theorem Ss {op:Op} {x:AV} (hx:HH E s op=some x):aN E B op s s x none:=by
 unfold HH at hx;split at hx
 ·obtain ⟨h1,h2⟩:=lZ hx;subst h1;exact aag rfl h2
 ·obtain ⟨h1,h2⟩:=lZ hx;subst h1;exact Tw rfl h2
 ·split at hx
  ·rename_i hc;obtain ⟨h1,h2⟩:=lZ hx;subst h1;exact aae hc rfl h2
  ·cases hx
 ·obtain ⟨h1,hx⟩:=an hx;cases hx;exact Lc rfl h1
 ·obtain ⟨i,hi,hx⟩:=I hx;exact aah hi rfl hx
 ·obtain ⟨i,hi,hx⟩:=I hx;exact HZ hi rfl hx
 ·obtain ⟨i,hi,hx⟩:=I hx;split at hx
  ·rename_i ha;exact VP hi ha hx
  ·cases hx
 ·split at hx
  ·rename_i ha;exact NO ha hx
  ·cases hx
 ·obtain ⟨y,hy,hx⟩:=I hx;obtain ⟨h1,h2⟩:=lZ hy;subst h1;exact abG rfl rfl h2 hx
 ·exact adR rfl hx
 ·obtain ⟨i,i2,h1,h2,hx⟩:=av hx;exact aak h1 h2 rfl hx
 ·obtain ⟨i,hi,hx⟩:=I hx;rw[ax] at hx;split at hx
  ·cases hx
  ·rename_i hd;obtain ⟨y,hy,hx⟩:=I hx;obtain ⟨h1,h2⟩:=lZ hy;subst h1;cases hx;exact abC hi (by simpa using hd) rfl h2
 ·obtain ⟨h1,hx⟩:=an hx;obtain ⟨h2,hx⟩:=an hx;cases hx;exact aai rfl h1 rfl h2
 ·obtain ⟨i,m,h1,h2,hx⟩:=av hx;obtain ⟨ys,h3,hx⟩:=I hx;cases hx;exact VQ h1 h2 h3
 ·cases hx
def uc (E:Env) (s:LS) (K:Nat) (op:Op):Option (Bx×AV):=
 match op with
 | .box e a=>ah (ka (aI s.ts a)) fun xs=>sel (cg K (cE xs)) none (some (.flat e xs,.loc K 0))
 | .alloc e=>ah (E.ty.get e) fun i=>some (.flat e (dU i.zero),.loc K 0)
 | .buildSlice t len parts=>aE (iP E t) (qU s.ts parts.toList) fun p m=>sel (du p.2&&Nat.ble (Nat.mul len p.2.size) 16777216) (ah (sI (ib p.2.size) (rY (dU p.2.zero) len) m) fun ys=>sel (cE ys).isEmpty (some (.rows false p.1 p.2.size (lE p.2.size len ys),.ms K p.2.size 0 len)) none) none
 | .makeMap _ none=>some (.map [],.mp K)
 | .range t a=>ah (E.ty.get t) fun i=>sel (mJ i.desc) (match aI s.ts a with| .str b=>some (.iter b 0,.it K)|_=>none) none
 |_=>none
theorem C2 {op:Op} {K:Nat} {p:Bx×AV} (hk:s.free K) (hp:B.pk K=false) (hx:uc E s K op=some p):aN E B op s (s.set K p.1) p.2 (some (K,true)):=by
 unfold uc at hx;split at hx
 ·obtain ⟨xs,h1,hx⟩:=I hx;rw[ax] at hx;split at hx
  ·cases hx
  ·rename_i hm;cases hx;exact abF rfl h1 hk hp (B6 (by simpa using hm))
 ·obtain ⟨i,h1,hx⟩:=I hx;cases hx;exact VS h1 hk hp
 ·obtain ⟨q,m,h1,h2,hx⟩:=av hx;obtain ⟨h3,hx⟩:=an hx;obtain ⟨ys,h4,hx⟩:=I hx;obtain ⟨h5,hx⟩:=an hx;cases hx;exact DJ h1 h3 h2 h4 hk hp h5
 ·cases hx;exact NM hk hp
 ·obtain ⟨i,h1,hx⟩:=I hx;obtain ⟨h2,hx⟩:=an hx;split at hx
  ·rename_i ha;cases hx;exact VN h1 h2 ha hk hp
  ·cases hx
 ·cases hx
def ub (E:Env) (s:LS) (op:Op):Option (Nat×Bx):=
 match op with
 | .store t a c=>ah (E.ty.get t) fun i=>(match aI s.ts a with
  | .loc K off=>ah (ka (aI s.ts c)) fun xs=>(match lk K s.bs with
   |some (.flat e cs)=>sel (Nat.beq xs.length i.size&&Nat.ble (Nat.add off xs.length) cs.length) (some (K,.flat e (bY cs off xs))) none
   |_=>none)
  |_=>none)
 |_=>none
theorem Sq {op:Op} {p:Nat×Bx} (hx:ub E s op=some p):aN E B op s (s.set p.1 p.2) (.tup []) (some (p.1,false)):=by
 unfold ub at hx;split at hx
 ·obtain ⟨i,h1,hx⟩:=I hx;split at hx
  ·rename_i ha;obtain ⟨xs,h2,hx⟩:=I hx;split at hx
   ·rename_i hb;obtain ⟨h3,hx⟩:=an hx;cases hx;exact VM h1 ha rfl h2 hb h3
   ·cases hx
  ·cases hx
 ·cases hx
def HG (E:Env) (s:LS) (op:Op):Option AV:=
 match op with
 | .call c=>(match c.callee with
  | .builtin .len=>(match c.args.toList,c.argTypes.toList with
   | [a],[t]=>ah (E.ty.get t) fun i=>ah (N1 s.bs i.desc (aI s.ts a)) fun n=>some (.int .i64 n)
   |_,_=>none)
  | .builtin .min=>(match c.args.toList with
   | [a,b]=>VZ false (aI s.ts a) (aI s.ts b)
   |_=>none)
  | .builtin .max=>(match c.args.toList with
   | [a,b]=>VZ true (aI s.ts a) (aI s.ts b)
   |_=>none)
  |_=>none)
 |_=>none
theorem Sp {op:Op} {x:AV} (hx:HG E s op=some x):aN E B op s s x none:=by
 unfold HG at hx;split at hx
 ·split at hx
  ·rename_i kJ;split at hx
   ·rename_i ha ht;obtain ⟨i,h1,hx⟩:=I hx;obtain ⟨n,h2,hx⟩:=I hx;cases hx;exact abB kJ ha ht h1 rfl h2
   ·cases hx
  ·rename_i kJ;split at hx
   ·rename_i ha;exact Tu (mx:=false) kJ ha rfl rfl hx
   ·cases hx
  ·rename_i kJ;split at hx
   ·rename_i ha;exact Tu (mx:=true) kJ ha rfl rfl hx
   ·cases hx
  ·cases hx
 ·cases hx
def HF (E:Env) (s:LS) (op:Op):Option Res:=
 match op with
 | .load t a=>ah (E.ty.get t) fun i=>sel (eu i.desc) none (match aI s.ts a with
  | .el K sz j f=>(match lk K s.bs with
   |some (.hole _ sz' _ i0 x)=>sel (Nat.beq sz' sz) (some (s,x,none,[(.loc 0 (Nat.add (Nat.mul j sz) f),.loc 0 i0)])) none
   |_=>none)
  |_=>none)
 |_=>none
theorem So {op:Op} {r:Res} (hr:HF E s op=some r):eQ E B op s r:=by
 intro ho;unfold HF at hr;split at hr
 ·obtain ⟨i,h1,hr⟩:=I hr;rw[ax] at hr;split at hr
  ·cases hr
  ·rename_i hg;split at hr
   ·rename_i ha;split at hr
    ·rename_i hb;obtain ⟨h2,hr⟩:=an hr;cases hr;have e1:=(beq_iff _ _).1 h2;have e2:=ho.1;injection e2 with _ e2
     subst e1;subst e2;exact Le h1 (by simpa using hg) ha hb
    ·cases hr
   ·cases hr
 ·cases hr
def mF (E:Env) (pks:List Nat) (s:LS) (op:Op) (d:Option Nat):Option Res:=
 match HH E s op with
 |some x=>some (s,x,none,[])
 |none=>(match ub E s op with
  |some p=>some (s.set p.1 p.2,.tup [],some (p.1,false),[])
  |none=>(match HG E s op with
   |some x=>some (s,x,none,[])
   |none=>(match d with
    |some K=>(match HF E s op with
     |some r=>some r
     |none=>sel (iU pks s K) (ah (uc E s K op) fun p=>some (s.set K p.1,p.2,some (K,true),[])) none)
    |none=>none)))
theorem px {pks:List Nat} {op:Op} {d:Option Nat} {r:Res} (hB:BOK pks B) (hr:mF E pks s op d=some r):eQ E B op s r:=by
 intro ho;unfold mF at hr;split at hr
 ·rename_i h1;cases hr;exact Ss h1
 ·split at hr
  ·rename_i h1;cases hr;exact Sq h1
  ·split at hr
   ·rename_i h1;cases hr;exact Sp h1
   ·split at hr
    ·split at hr
     ·rename_i h1;cases hr;exact So h1 ho
     ·obtain ⟨h1,hr⟩:=an hr;obtain ⟨p,h2,hr⟩:=I hr;cases hr;obtain ⟨a,b⟩:=kW hB h1;exact C2 a b h2
    ·cases hr
end Go.Sim
end
