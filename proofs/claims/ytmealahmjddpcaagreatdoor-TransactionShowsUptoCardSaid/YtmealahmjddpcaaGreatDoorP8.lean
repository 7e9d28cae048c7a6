/- Texts that belong together. The first: Plain readings of what may fail, and the items that show them. -/
import Derived.Test.YtmealahmjddpcaaGreatDoorP7
import Derived.Below
import Derived.Carry
import Derived.OpenShut
import Derived.JoinedCond
import Derived.KernelRfl
import Derived.Test.YtmealahmjddpcaaGreatDoorRows
import Derived.WalkKit
import Derived.ProofKit
import Derived.Deep.DeepHandedRow
import Derived.Test.YtmealahmjddpcaaGreatDoorProg
import Derived.Test.YtmealahmjddpcaaGreatDoorP4
set_option linter.all false
set_option maxRecDepth 1000000
noncomputable section
namespace Go.Sim
section
def idx {α:Type} (xs:List α) (i:Int):Option α:=if 0<=i then xs[i.toNat]? else none
def app {α:Type} (xs ys:List α):Option (List α):=if xs.length<=1000000/\ys.length<=1000000 then some (xs++ys) else none
def oV {α:Type} (xs:List α) (n:Nat) (ys:List α):Option (List α):=if n<=xs.length/\n<=1000000/\ys.length<=1000000 then some (xs.take n++ys) else none
def cut {α:Type} (xs:List α) (lo hi:Option Int):Option (List α):=
 if 0<=lo.getD 0/\0<=hi.getD 0/\(lo.getD 0).toNat<=(hi.map Int.toNat).getD xs.length/\(hi.map Int.toNat).getD xs.length<=xs.length then
  some ((xs.take ((hi.map Int.toNat).getD xs.length)).drop (lo.getD 0).toNat) else none
def aap (n:Nat) (lo hi:Option Int):Option (Nat×Nat):=
 if 0<=lo.getD 0/\0<=hi.getD 0/\(lo.getD 0).toNat<=(hi.map Int.toNat).getD n/\(hi.map Int.toNat).getD n<=n then
  some ((lo.getD 0).toNat,(hi.map Int.toNat).getD n) else none
def lj {α:Type} (xs:List α) (hi mx:Int):Option (List α):=if hi=mx/\0<=hi/\hi.toNat<=xs.length then some (xs.take hi.toNat) else none
def cat (a b:ByteArray):Option ByteArray:=if a.size+b.size<=1000000 then some (a++b) else none
def quo (k:IntKind) (a b:Int):Option Int:=if b=0 then none else some (k.wrap (a.tdiv b))
def rem (a b:Int):Option Int:=if b=0 then none else some (a.tmod b)
def bnd (n:Nat) (i:Int):Option Nat:=if 0<=i/\i.toNat<n then some i.toNat else none
def setAt {α:Type} (xs:List α) (i:Nat) (x:α):Option (List α):=if i<xs.length then some (xs.set i x) else none
def kg {α:Type} (n:Int) (x:α):Option (List α):=if 0<=n/\n<=1000000 then some (List.replicate n.toNat x) else none
def cpy {α:Type} (xs ys:List α):Option (List α):=if xs= [] then none else some (ys.take (min ys.length xs.length)++xs.drop (min ys.length xs.length))
def ga {β:Type} (m:List (ByteArray×β)) (k:ByteArray) (d:β):β:=match m with| []=>d|p::m=>if k=p.1 then p.2 else ga m k d
def gw {β:Type} (m:List (ByteArray×β)) (k:ByteArray) (v:β):List (ByteArray×β):=match m with| []=> [(k,v)]|p::m=>if k=p.1 then (k,v)::m else p::gw m k v
abbrev w64 (x:Int):Int:=IntKind.i64.wrap x
def Bc {α:Type} (xs:List (List α)) (j:Nat):Option Unit:=match xs[j]? with|some []=>some ()|_=>none
theorem Qx {α:Type} {xs:List (List α)} {j:Nat} {u:Unit} (h:Bc xs j=some u):xs[j]? =some []:=by
 unfold Bc at h;split at h
 ·assumption
 ·cases h
def nS (a b:Nat):Option Unit:=if a=b then some () else none
theorem zq {a b:Nat} {u:Unit} (h:nS a b=some u):a=b:=by
 unfold nS at h;split at h
 ·assumption
 ·cases h
structure RowsK {α:Type} (enc:α->List AV) (rows:List α->List (List AV)):Prop where
 map:∀xs,rows xs=xs.map enc
section
variable {α:Type} {enc:α->List AV} {rows:List α->List (List AV)} {E:Env}
theorem RowsK.len (R:RowsK enc rows) (xs:List α):(rows xs).length=xs.length:=by rw[R.map,List.length_map]
theorem RowsK.ax (R:RowsK enc rows) (xs:List α):AV.int .i64 ((rows xs).length:Int)= .int .i64 (xs.length:Int):=by rw[R.len]
theorem RowsK.get (R:RowsK enc rows) {xs:List α} {j:Nat} {x:α} (h:xs[j]? =some x):(rows xs)[j]? =some (enc x):=by rw[R.map,List.getElem?_map,h];rfl
theorem RowsK.isE (R:RowsK enc rows) (xs:List α):(rows xs).isEmpty=xs.isEmpty:=by rw[R.map];cases xs<;>rfl
theorem RowsK.idx' (R:RowsK enc rows) {xs:List α} {n:Int} {x:α} (h:idx xs n=some x):lv (rows xs) n=some (enc x):=by
 unfold Go.Sim.idx at h;unfold lv;split at h
 ·rename_i h0;rw[if_pos h0];exact R.get h
 ·cases h
def RowsK.idx (R:RowsK enc rows) {xs:List α} {n:Int} {x:α} (h:idx xs n=some x):It E:=.idx (R.idx' h)
def RowsK.row (R:RowsK enc rows) {xs:List α} {j:Nat} {x:α} (h:xs[j]? =some x):It E:=.row (R.get h)
theorem rh {n:Nat} {i:Int} {k:Nat} (h:bnd n i=some k):i=(k:Int)/\k<n:=by
 unfold bnd at h;split at h
 ·rename_i h0;cases h;exact ⟨by omega,h0.2⟩
 ·cases h
def qG {n:Nat} {i:Int} {k:Nat} (h:bnd n i=some k):It E:=.idb (n:=n) (m:=i) (k:=i.toNat) (by have:=rh h;omega) (by have:=rh h;omega)
def eA {n:Nat} {i:Int} {k:Nat} (h:bnd n i=some k):It E:=.idb (rh h).1 (rh h).2
theorem kN {xs zs:List α} {i:Nat} {y:α} (h:setAt xs i y=some zs):zs=xs.set i y/\i<xs.length:=by
 unfold setAt at h;split at h
 ·cases h;exact ⟨rfl,by assumption⟩
 ·cases h
theorem dT {xs zs:List α} {i:Nat} {y:α} (h:setAt xs i y=some zs):zs.length=xs.length:=by rw[(kN h).1,List.length_set]
theorem RowsK.set' (R:RowsK enc rows) {xs zs:List α} {j f:Nat} {x y:α} {vs:List AV} (h1:setAt xs j y=some zs) (he:cq (enc x) f vs=enc y):(rows xs).set j (cq (enc x) f vs)=rows zs:=by
 rw[(kN h1).1,he,R.map,R.map,List.map_set]
def RowsK.sto (R:RowsK enc rows) {xs zs:List α} {j:Nat} {x y:α} (f:Nat) (vs:List AV) (h0:xs[j]? =some x) (h1:setAt xs j y=some zs) (he:cq (enc x) f vs=enc y):It E:=.sto (f:=f) (xs:=vs) (R.get h0) (R.set' h1 he)
theorem nH {xs ys zs:List α} (h:app xs ys=some zs):xs.length<=1000000/\ys.length<=1000000/\zs=xs++ys:=by
 unfold app at h;split at h
 ·rename_i h0;cases h;exact ⟨h0.1,h0.2,rfl⟩
 ·cases h
def RowsK.app (R:RowsK enc rows) {xs ys zs:List α} (h:app xs ys=some zs) (sr:Sr (rows ys)):It E:=
 .app (Q:=rows xs) (R:=rows ys) (Q':=rows zs) (n:=xs.length) (n':=zs.length) (R.len xs).symm (by rw[R.len];exact (nH h).1) (by rw[R.len];exact (nH h).2.1) (by rw[(nH h).2.2,R.map,R.map,R.map,List.map_append]) (R.len zs) sr
theorem agC {xs:List α} (h:xs.isEmpty=false):xs≠ []:=fun e=>by rw[e] at h;cases h
def RowsK.EG (R:RowsK enc rows) {xs ys zs:List α} (h:Go.Sim.app xs ys=some zs) (hne:ys≠ []) (sr:Sr (rows ys)):It E:=
 .EG (Q:=rows xs) (R:=rows ys) (Q':=rows zs) (n':=zs.length) (by rw[R.len];exact (nH h).1) (by rw[R.len];exact (nH h).2.1) (by rw[R.map];intro hc;exact hne (List.map_eq_nil_iff.1 hc)) (by rw[(nH h).2.2,R.map,R.map,R.map,List.map_append]) (R.len zs) sr
def RowsK.B6 (R:RowsK enc rows) {ys:List α} (h:ys= []) (sr:Sr (rows ys)):It E:=.B6 (by rw[R.map,h];rfl) sr
theorem sj {xs ys zs:List α} {n:Nat} (h:oV xs n ys=some zs):n<=xs.length/\n<=1000000/\ys.length<=1000000/\zs=xs.take n++ys:=by
 unfold oV at h;split at h
 ·rename_i h0;cases h;exact ⟨h0.1,h0.2.1,h0.2.2,rfl⟩
 ·cases h
def RowsK.oV (R:RowsK enc rows) {xs ys zs:List α} {n:Nat} (h:oV xs n ys=some zs) (sr:Sr (rows ys)):It E:=
 .aaD (Q:=rows xs) (P:=rows (xs.take n)) (R:=rows ys) (Q':=rows zs) (n:=n) (n':=zs.length) (by rw[R.map,R.map,List.map_take]) (by rw[R.len];exact (sj h).1) (sj h).2.1 (by rw[R.len];exact (sj h).2.2.1) (by rw[(sj h).2.2.2,R.map,R.map,R.map,List.map_append]) (R.len zs) sr
def RowsK.sr (R:RowsK enc rows) {xs:List α} {lo n:Nat} (hn:lo+n<=xs.length):Sr (rows ((xs.drop lo).take n)):=.box (Q:=rows xs) (lo:=lo) (n:=n) (by rw[R.map,R.map,List.map_take,List.map_drop]) (by rw[R.len];exact hn)
def RowsK.srW (R:RowsK enc rows) (xs:List α):Sr (rows xs):=.box (Q:=rows xs) (lo:=0) (n:=xs.length) (by rw[List.drop_zero,<-R.len,List.take_length]) (by rw[R.len];omega)
theorem LJ {xs zs:List α} {lo hi:Option Int} (h:cut xs lo hi=some zs):∃l u:Nat,lo.getD 0=(l:Int)/\hi.getD (xs.length:Nat)=(u:Int)/\l<=u/\u<=xs.length/\zs=(xs.drop l).take (u-l):=by
 unfold cut at h;split at h
 ·rename_i h0;cases h;obtain ⟨a,b,c,d⟩:=h0;refine ⟨(lo.getD 0).toNat,(hi.map Int.toNat).getD xs.length,by omega,?_,c,d,by rw[List.drop_take]⟩
  cases hi with
  |none=>rfl
  |some v=>have:0<=v:=b;show v=((v.toNat:Nat):Int);omega
 ·cases h
def RowsK.cut (R : RowsK enc rows) {xs zs : List α} {lo hi : Option Int} (h : cut xs lo hi = some zs) : It E :=
  .cut (rows := rows xs) (R := rows zs) (lo := lo.getD 0) (hi := hi.getD ((rows xs).length : Nat)) (l := (lo.getD 0).toNat) (u := (hi.map Int.toNat).getD xs.length)
    (by obtain ⟨l, u, a, b, c, d, e⟩ := LJ h; omega)
    (by
      obtain ⟨l, u, a, b, c, d, e⟩ := LJ h
      cases hi with
      | none => show (((rows xs).length : Nat) : Int) = _; rw [R.len]; rfl
      | some v => have b : v = (u : Int) := b; show v = ((v.toNat : Nat) : Int); omega)
    (by unfold Go.Sim.cut at h; split at h; · rename_i h0; exact h0.2.2.1
        · cases h)
    (by unfold Go.Sim.cut at h; split at h; · rename_i h0; rw [R.len]; exact h0.2.2.2
        · cases h)
    (by unfold Go.Sim.cut at h; split at h; · cases h; rw [R.map, R.map, <- List.drop_take, List.map_drop, List.map_take]
        · cases h)
theorem r9 {xs zs:List α} {hi mx:Int} (h:lj xs hi mx=some zs):hi=(hi.toNat:Int)/\mx=(hi.toNat:Int)/\hi.toNat<=xs.length/\zs=xs.take hi.toNat:=by
 unfold lj at h;split at h
 ·rename_i h0;cases h;obtain ⟨a,b,c⟩:=h0;exact ⟨by omega,by omega,c,rfl⟩
 ·cases h
def RowsK.lj (R:RowsK enc rows) {xs zs:List α} {hi mx:Int} (h:Go.Sim.lj xs hi mx=some zs):It E:=
 .lj (rows:=rows xs) (R:=rows zs) (hi:=hi) (mx:=mx) (u:=hi.toNat) (r9 h).1 (r9 h).2.1 (by rw[R.len];exact (r9 h).2.2.1) (by rw[(r9 h).2.2.2,R.map,R.map,List.map_take])
theorem r8 {n:Nat} {lo hi:Option Int} {p:Nat×Nat} (h:aap n lo hi=some p):lo.getD 0=(p.1:Int)/\hi.getD (n:Nat)=(p.2:Int)/\p.1<=p.2/\p.2<=n:=by
 unfold aap at h;split at h
 ·rename_i h0;cases h;obtain ⟨a,b,c,d⟩:=h0;refine ⟨by show _=(((lo.getD 0).toNat:Nat):Int);omega,?_,c,d⟩
  cases hi with
  |none=>rfl
  |some v=>have:0<=v:=b;show v=((v.toNat:Nat):Int);omega
 ·cases h
def RowsK.Ez (R:RowsK enc rows) {xs:List α} {lo0 n:Nat} {lo hi:Option Int} {p:Nat×Nat} (h:aap n lo hi=some p) (hn:lo0+n<=xs.length):It E:=
 .Ez (Q:=rows xs) (lo0:=lo0) (n:=n) (lo:=lo.getD 0) (hi:=hi.getD (n:Nat)) (l:=p.1) (u:=p.2) (r8 h).1 (r8 h).2.1 (r8 h).2.2.1 (r8 h).2.2.2 (by rw[R.len];exact hn)
theorem ja {n:Int} {x:α} {zs:List α} (h:kg n x=some zs):n=(n.toNat:Int)/\n.toNat<=1000000/\zs=List.replicate n.toNat x:=by
 unfold kg at h;split at h
 ·rename_i h0;cases h;exact ⟨by omega,by omega,rfl⟩
 ·cases h
def RowsK.made (R:RowsK enc rows) {n:Int} {x:α} {zs:List α} (z:List AV) (ms:List P1) (h:kg n x=some zs) (he:apps ms z=enc x):It E:=
 .mk (n1:=n) (n2:=n) (l:=n.toNat) (m:=n.toNat) (x:=z) (Q':=rows zs) (ja h).1 (ja h).1 (Nat.le_refl _) (ja h).2.1 ms (by rw[(ja h).2.2,R.map,List.map_replicate,List.map_replicate,he])
def RowsK.aix (R:RowsK enc rows) {n:Int} {x:α} {zs:List α} (z:List AV) (h:kg n x=some zs):It E:=
 .mk (n1:=0) (n2:=n) (l:=0) (m:=n.toNat) (x:=z) (Q':=rows []) rfl (ja h).1 (Nat.zero_le _) (ja h).2.1 [] (by rw[R.map];rfl)
theorem Ad {xs ys zs:List α} (h:cpy xs ys=some zs):xs≠ []/\zs=ys.take (min ys.length xs.length)++xs.drop (min ys.length xs.length):=by
 unfold cpy at h;split at h
 ·cases h
 ·rename_i h0;cases h;exact ⟨h0,rfl⟩
def RowsK.cpy (R:RowsK enc rows) {xs ys zs:List α} (h:cpy xs ys=some zs) (sr:Sr (rows ys)):It E:=
 .cpy (Q:=rows xs) (R:=rows ys) (Q':=rows zs) (lo:=0) (n:=xs.length) (m:=min ys.length xs.length) (by rw[R.len];omega) (by rw[R.len]) (by rw[(Ad h).2,R.map,R.map,R.map];simp) (by intro hc;have:=R.len xs;rw[hc] at this;exact (Ad h).1 (List.length_eq_zero_iff.1 this.symm)) sr
def sQ {α:Type} (xs:List α) (lo n:Nat) (ys:List α):Option (List α):=if xs≠ []/\lo+n<=xs.length then some (xs.take lo++ys.take (min ys.length n)++xs.drop (lo+min ys.length n)) else none
theorem sb {xs ys zs:List α} {lo n:Nat} (h:sQ xs lo n ys=some zs):(xs≠ []/\lo+n<=xs.length)/\zs=xs.take lo++ys.take (min ys.length n)++xs.drop (lo+min ys.length n):=by
 unfold sQ at h;split at h
 ·rename_i h0;cases h;exact ⟨h0,rfl⟩
 ·cases h
theorem aar {xs ys zs:List α} {lo n:Nat} (h:sQ xs lo n ys=some zs):zs.length=xs.length:=by
 obtain ⟨⟨_,h1⟩,h2⟩:=sb h;rw[h2,List.length_append,List.length_append,List.length_take,List.length_take,List.length_drop];omega
def RowsK.sQ (R:RowsK enc rows) {xs ys zs:List α} {lo n:Nat} (h:sQ xs lo n ys=some zs) (sr:Sr (rows ys)):It E:=
 .cpy (Q:=rows xs) (R:=rows ys) (Q':=rows zs) (lo:=lo) (n:=n) (m:=min ys.length n) (by rw[R.len];exact (sb h).1.2) (by rw[R.len]) (by rw[(sb h).2,R.map,R.map,R.map];simp) (by intro hc;have:=R.len xs;rw[hc] at this;exact (sb h).1.1 (List.length_eq_zero_iff.1 this.symm)) sr
def RowsK.clo (R:RowsK enc rows) {xs zs:List α} {j:Nat} {x y:α} (K:Nat) (f:Nat) (q:AV) (u:AV) (h0:xs[j]? =some x) (h1:setAt xs j y=some zs) (he:cq (cq (enc x) f [u]) f [q]=enc y):It E:=
 .clo (Q:=(rows xs).set j (cq (enc x) f [u])) (R:=cq (enc x) f [u]) (f:=f) (x:=q) (Q':=rows zs) K (by
  have hj:=R.get h0;have hlt:=(List.getElem?_eq_some_iff.1 hj).1;rw[List.getElem?_set_self hlt]) (by rw[List.set_set,he,(kN h1).1,R.map,R.map,List.map_set])
def RowsK.opn1 (R:RowsK enc rows) {xs:List α} {j:Nat} {x:α} {q:AV} (K:Nat) (h0:xs[j]? =some x) (he:enc x= [q]):It E:=.opn (Q:=rows xs) (j:=j) (x:=q) K (by rw[R.get h0,he]) rfl
theorem Rf {Q:List (List AV)} {j:Nat} (h1:∀r∈Q,r.length=1) (hj:j<Q.length):(Q.set j [AV.undef]).flatten[j]? =some .undef:=by
 have hj':(Q.set j [AV.undef])[j]? =some [.undef]:=List.getElem?_set_self hj;have:=Ek (sz:=1) (f:=0) (Q:=Q.set j [AV.undef]) (j:=j) (R:= [.undef]) (x:=.undef) (fun r hr=>by
  rcases List.mem_or_eq_of_mem_set hr with hr|rfl
  ·exact h1 r hr
  ·rfl) hj' rfl
 simpa using this
def RowsK.hst1 (R:RowsK enc rows) (h1:∀x,(enc x).length=1) {xs:List α} {i:Int} {k:Nat} (h:bnd xs.length i=some k):It E:=.hst (Q:=(rows xs).set (0+i.toNat) [.undef]) (j:=0+i.toNat) (f:=0) (Rf (fun r hr=>by
 rw[R.map] at hr;obtain ⟨x,_,e⟩:=List.mem_map.1 hr;rw[<-e];exact h1 x) (by have:=rh h;rw[R.len];omega))
def RowsK.clo1 (R:RowsK enc rows) {xs zs:List α} {j:Nat} {y:α} (K:Nat) (q:AV) (h1:setAt xs j y=some zs) (he: [q]=enc y):It E:=
 .clo (Q:=(rows xs).set j [.undef]) (j:=j) (R:= [.undef]) (f:=0) (x:=q) (Q':=rows zs) K (by
  have hlt:=(kN h1).2;rw[List.getElem?_set_self (by rw[R.len];exact hlt)]) (by
  show ((rows xs).set j [.undef]).set j [q]=rows zs;rw[List.set_set,he,(kN h1).1,R.map,R.map,List.map_set])
def g6 {β:Type} (rows:List β->List (List AV)) (x:List (List β)):List (Option (List (List AV))):=x.map fun y=>some (rows y)
def RowsK.DN {encN:List α->List AV} {cI:List (List α)->List (List AV)} (R:RowsK enc rows) (N:RowsK encN cI) {n:Int} {x:List (List α)} (K e' s:Nat) (h:kg n ([]:List α)=some x) (he:encN []= [.sln e' s []]):It E:=
 .DN (Q:=cI x) (P:=g6 rows x) K e' s ⟨n.toNat,by rw[N.map,(ja h).2.2,List.map_replicate,he],by
  unfold g6;rw[(ja h).2.2,List.map_replicate,R.map];rfl⟩
def RowsK.sG (R:RowsK enc rows) {x:List (List α)} {j:Nat} {y:List α} (K K2:Nat) (h:x[j]? =some y):It E:=
 .sG (Q:=g6 rows x) (j:=j) (R:=rows y) (n:=y.length) (Q':=(g6 rows x).set j none) K K2 (by unfold g6;rw[List.getElem?_map,h];rfl) (R.len y) rfl
def RowsK.ud (R:RowsK enc rows) {x z:List (List α)} {j:Nat} {y:List α} (K K2:Nat) (h:setAt x j y=some z):It E:=
 .ud (Q:=(g6 rows x).set j none) (j:=j) (R:=rows y) (n:=y.length) (Q':=g6 rows z) K K2 (R.len y) (by
  rw[List.set_set,(kN h).1];unfold g6;rw[List.map_set])
theorem RowsK.own {LA:List α->List AV} {AP:List (List α)->List (List AV)} (R:RowsK enc rows) (N:RowsK LA AP) {b:Bool} {e' s:Nat} (he:∀y,LA y= [sel b (.slx e' s (rows y)) (.slice e' s (rows y))]) (x:List (List α)):(g6 rows x).map (zD b e' s)=AP x:=by
 unfold g6;rw[N.map,List.map_map];exact List.map_congr_left fun y _=>(he y).symm
theorem J6 {β:Type} {rows:List β->List (List AV)} (x:List (List β)):(g6 rows x).length=x.length:=List.length_map _
def RowsK.DU {LA:List α->List AV} {AP:List (List α)->List (List AV)} (R:RowsK enc rows) (N:RowsK LA AP) (b:Bool) (K e' s:Nat) (he:∀y,LA y= [sel b (.slx e' s (rows y)) (.slice e' s (rows y))]) (x:List (List α)):It E:=
 .DU (Q:=g6 rows x) (P:=AP x) (n:=x.length) b K e' s (R.own N he x) (J6 x)
def RowsK.hol (R:RowsK enc rows) {xs:List α} {j:Nat} {x:α} (f:Nat) (h0:xs[j]? =some x):It E:=.hol (f:=f) (R.get h0) rfl
def RowsK.frz (R:RowsK enc rows) (K:Nat) (xs:List α):It E:=.frz (Q:=rows xs) (n:=xs.length) K (R.len xs)
theorem RowsK.rws {enc':α->List AV} {rows':List α->List (List AV)} (R:RowsK enc rows) (R':RowsK enc' rows') {ms:List P1} (h:∀x,apps ms (enc x)=enc' x) (xs:List α):(rows xs).map (apps ms)=rows' xs:=by
 rw[R.map,R'.map,List.map_map];exact List.map_congr_left fun x _=>h x
end
def gA (n:Nat) (hi:Int):Option Nat:=if 0<=hi/\hi.toNat<=n then some hi.toNat else none
def jo (n:Nat) (lo:Int):Option Nat:=if 0<=lo/\lo.toNat<=n then some lo.toNat else none
theorem kI {n u:Nat} {hi:Int} (h:gA n hi=some u):hi=(u:Int)/\u<=n:=by
 unfold gA at h;split at h
 ·rename_i h0;cases h;exact ⟨by omega,h0.2⟩
 ·cases h
theorem wQ {n u:Nat} {lo:Int} (h:jo n lo=some u):lo=(u:Int)/\u<=n:=by
 unfold jo at h;split at h
 ·rename_i h0;cases h;exact ⟨by omega,h0.2⟩
 ·cases h
theorem EA {n u m:Nat} {lo:Int} (h:jo n lo=some u) (le:n<=m):0+u+(n-u)<=m:=by
 have:=(wQ h).2;omega
section
variable {α:Type} {enc:α->List AV} {rows:List α->List (List AV)} {E:Env}
def RowsK.gA (R:RowsK enc rows) {xs:List α} {n u:Nat} {hi:Int} (h:gA n hi=some u) (le:n<=xs.length):It E:=
 .Ez (Q:=rows xs) (lo0:=0) (n:=n) (lo:=0) (hi:=hi) (l:=0) (u:=u) rfl (kI h).1 (Nat.zero_le _) (kI h).2 (by rw[R.len];omega)
def RowsK.jo (R:RowsK enc rows) {xs:List α} {n u:Nat} {lo:Int} (h:jo n lo=some u) (le:n<=xs.length):It E:=
 .Ez (Q:=rows xs) (lo0:=0) (n:=n) (lo:=lo) (hi:=(n:Int)) (l:=u) (u:=n) (wQ h).1 rfl (wQ h).2 (Nat.le_refl _) (by rw[R.len];omega)
theorem RowsK.take (R:RowsK enc rows) (xs:List α) (u:Nat):(rows xs).take u=rows (xs.take u):=by rw[R.map,R.map,List.map_take]
theorem vx {xs:List α} {u:Nat} (h:u<=xs.length):(xs.take u).length=u:=by rw[List.length_take];omega
theorem zw {n:Int} {x:α} {zs:List α} (h:kg n x=some zs):n.toNat=zs.length:=by rw[(ja h).2.2,List.length_replicate]
theorem afi {xs ys zs:List α} (h:cpy xs ys=some zs):zs.length=xs.length:=by
 rw[(Ad h).2,List.length_append,List.length_take,List.length_drop];omega
end
theorem int_eq {k:IntKind} {a b:Int} (h:(a==b)=true):AV.int k a= .int k b:=by rw[eq_of_beq h]
theorem LO {a b c:ByteArray} (h:cat a b=some c):a.size+b.size<=1000000/\a++b=c:=by
 unfold cat at h;split at h
 ·rename_i h0;cases h;exact ⟨h0,rfl⟩
 ·cases h
theorem JU {a b c:Int} (h:rem a b=some c):b≠0/\a.tmod b=c:=by
 unfold rem at h;split at h
 ·cases h
 ·rename_i h0;cases h;exact ⟨h0,rfl⟩
def kC {β:Type} (f:β->AV) (m:List (ByteArray×β)):List (AV×AV):=m.map fun p=>(.str p.1,f p.2)
theorem FC {β:Type} {f:β->AV} {k:ByteArray} {d:β}:∀m:List (ByteArray×β),∃r,iG (.str k) (kC f m)=some r/\wA false (some (f d)) r=some (f (ga m k d))
 | []=>⟨none,rfl,rfl⟩
 |p::m=>by
  obtain ⟨r,h1,h2⟩:=FC (f:=f) (k:=k) (d:=d) m;have step:iG (.str k) (kC f (p::m))=(match some (decide (k=p.1)) with
   |some true=>some (some (0,f p.2))
   |some false=>(match iG (.str k) (kC f m) with|some (some q)=>some (some (q.1+1,q.2))|r=>r)
   |none=>none):=rfl
  by_cases hk:k=p.1
  ·refine ⟨some (0,f p.2),by rw[step];simp[hk],?_⟩
   show some (f p.2)=some (f (ga (p::m) k d));unfold ga;rw[if_pos hk]
  ·have hg:ga (p::m) k d=ga m k d:=by rw[ga,if_neg hk]
   rw[hg];cases r with
   |none=>exact ⟨none,by rw[step];simp[hk,h1],h2⟩
   |some q=>exact ⟨some (q.1+1,q.2),by rw[step];simp[hk,h1],h2⟩
theorem mu {β:Type} {f:β->AV} {k:ByteArray} {v:β}:∀m:List (ByteArray×β),∃r,iG (.str k) (kC f m)=some r/\CY (kC f m) (.str k) (f v) r=kC f (gw m k v)
 | []=>⟨none,rfl,rfl⟩
 |p::m=>by
  obtain ⟨r,h1,h2⟩:=mu (f:=f) (k:=k) (v:=v) m;have step:iG (.str k) (kC f (p::m))=(match some (decide (k=p.1)) with
   |some true=>some (some (0,f p.2))
   |some false=>(match iG (.str k) (kC f m) with|some (some q)=>some (some (q.1+1,q.2))|r=>r)
   |none=>none):=rfl
  by_cases hk:k=p.1
  ·refine ⟨some (0,f p.2),by rw[step];simp[hk],?_⟩
   unfold gw;rw[if_pos hk];rfl
  ·have hg:gw (p::m) k v=p::gw m k v:=by rw[gw,if_neg hk]
   rw[hg];have hc:kC f (p::gw m k v)=(.str p.1,f p.2)::kC f (gw m k v):=rfl;have hc2:kC f (p::m)=(.str p.1,f p.2)::kC f m:=rfl;cases r with
   |none=>exact ⟨none,by rw[step];simp[hk,h1],by rw[hc,<-h2,hc2];rfl⟩
   |some q=>exact ⟨some (q.1+1,q.2),by rw[step];simp[hk,h1],by rw[hc,<-h2,hc2];rfl⟩
theorem g9 {k:ByteArray} {d b:Bool} {m:List (ByteArray×Bool)} (h:ga m k d=b):∃r,iG (.str k) (kC AV.bool m)=some r/\wA false (some (.bool d)) r=some (.bool b):=h ▸ FC m
theorem bl.cast {E:Env} {f:Nat} {bs bs':List (Nat×Bx)} {xs:List AV} {y y':AV} (h:bl E f bs xs y bs') (e:y=y'):bl E f bs xs y' bs':=e ▸ h
theorem NS {E:Env} {f:Nat} {bs bs':List (Nat×Bx)} {xs:List AV} {a b:Bool} (h:bl E f bs xs (.bool a) bs') (e:a=b):bl E f bs xs (.bool b) bs':=e ▸ h
theorem bl.dat {E:Env} {f K s n:Nat} {z:Bool} {e:TypeId} {Q:List (List AV)} {bs bs':List (Nat×Bx)} {xs:List AV} (h:bl E f bs xs (.ms K s 0 n) bs') (hl:lk K bs'=some (.rows z e s Q)) (hn:lk K bs=none) (hq:Q.length=n) (hb:oN K bs'= []):
  bl E f bs xs (sel z (.sln e s Q) (.slice e s Q)) ((bG K bs').map fun p=>(p.1,Bx.frz K (sel z (.sln e s Q) (.slice e s Q)) (fun _=>.undef) p.2)):=.mk fun {F g φ hh aa} ent has=>by
 subst hq;obtain ⟨F',g',φ',h1,v,go,hv,r⟩:=h.go ent has;have hp:(Lz F g φ bs hh).pk K=false:=by show (lk K bs).isSome=false;rw[hn];rfl
 have ed:(sel z (.sln e s Q) (.slice e s Q):AV)=sO (.rows z e s Q):=by cases z<;>rfl
 have r0:=r.put (d:=0) (v:=v) (x:=.ms K s 0 Q.length) (tm':=fun t=>if t=0 then some v else none) (fun t=>rfl) fun _=>hv
 obtain ⟨F2,hF,r2⟩:=r0.frz (K:=K) (b:=.rows z e s Q) (D:=sO (.rows z e s Q)) (L:=fun _=>.undef) (sz:=s) (m:=Q.length) hl hp (fun q hq=>by
  rcases List.mem_append.1 hq with hq|hq
  ·have hq:q∈sel (Nat.beq K K) (sel (Nat.beq 0 0) [(s,Q.length)] []) []++ []:=hq;rw[show Nat.beq K K=true from (beq_iff _ _).2 rfl] at hq;have hq:q∈ [(s,Q.length)]:=by simpa using hq
   simpa using hq
  ·have hq:q∈oN K bs':=hq;rw[hb] at hq;cases hq) fun F' hF hi q=>⟨hF,(qe hF rfl hi q).ms,fun v off _=>.undef v⟩
 have hne:sO (.rows z e s Q)≠ .undef:=by cases z<;>(intro hc;cases hc)
 have e0:uF K (sO (.rows z e s Q)) (fun _=>.undef) (.ms K s 0 Q.length)=sO (.rows z e s Q):=by
  show sel (Nat.beq K K) (sel (Nat.beq 0 0) _ _) _=_;rw[show Nat.beq K K=true from (beq_iff _ _).2 rfl];rfl
 obtain ⟨v',v1,v2⟩:=r2.tm 0 _ (show lk 0 [((0:Nat),uF K (sO (.rows z e s Q)) (fun _=>.undef) (.ms K s 0 Q.length))]=some _ from by rw[bh,if_pos rfl]) (by rw[e0];exact hne)
 have ev:v=v':=by simpa using v1
 subst ev;rw[e0] at v2;refine ⟨F2,g',φ',h1,v,go,by rw[ed];exact v2,?_⟩
 rw[ed];exact {r2 with tm:=fun t x hx _=>(by cases hx)}
theorem bl.done {E:Env} {k:Nat} {v:SV} {y:AV} (hd:r7 k E.done=some v) (hv:∀F g,VA F g v y):bl E k [] [] y []:=.mk fun {F g φ h aa} ent has=>by
 cases has;exact ⟨F,g,φ,⟨h.hp,h.nx,[]⟩,v,bA.done hd,hv F g,ent⟩
theorem bl.cmp {E:Env} {k:Nat} {fn:Func} {a b:ByteArray} (hg:E.fn.get k=some fn) (hb:fn.body=none) (hn:(fn.name== "internal/bytealg.abigen_runtime_cmpstring")=true):bl E k [] [.str a,.str b] (.int .i64 (qZ a b)) []:=.mk fun {F g φ h aa} ent has=>by
 cases has with|cons h1 t1=>
 cases t1 with|cons h2 t2=>
 cases t2;cases h1;cases h2;refine ⟨F,g,φ,⟨h.hp,h.nx,[]⟩,.int .i64 (.lit (qZ a b)),?_,.int _ _,ent⟩;refine .step ⟨0,fun n _=> ?_⟩
 show wy E (run E n) k (E.fn.get k) [.str a,.str b] h=_;rw[hg];show @Option.rec Code (fun _=>Out) (Lq fn [.str a,.str b] h) _ fn.body=_
 rw[hb];show sel (fn.name== "internal/bytealg.abigen_runtime_cmpstring") (Out.res (.int .i64 (.lit (qZ a b))) h) (Out.fail fn.name)=_;rw[hn];rfl
theorem NR {E:Env} {X:Fx E} {f:Nat} {bs bs':List (Nat×Bx)} {xs:List AV} {y:AV} {s:LS} (hk:xZ E f X.fn X.code) (hn:Nat.ble xs.length X.fn.ntmps=true) (hp:qF bs=X.pks) (hs:(⟨pJ 0 xs,bs⟩:LS)=s) (h:At X [] s y bs'):bl E f bs xs y bs':=R1 hk hn hp (hs ▸ h)
end
section
variable {F F':Hf} {g g':Gb} {E:Env}
mutual
def lJ:AV->Bool
 | .slice _ _ _=>false
 | .sln _ _ _=>false
 | .slf _ _ _=>false
 | .slx _ _ _=>false
 | .imm _=>false
 | .agg cs=>fh cs
 | .tup vs=>fh vs
 | .fn _ a c=>fh a&&fh c
 | .ifc _ x=>lJ x
 |_=>true
def fh:List AV->Bool
 | []=>true
 |x::l=>lJ x&&fh l
end
mutual
theorem VA.rj:∀{x:AV} {v:SV},VA F g v x->lJ x=true->VA F' g v x
 | .slice _ _ _,_,_,h=>by cases h
 | .sln _ _ _,_,_,h=>by cases h
 | .slf _ _ _,_,_,h=>by cases h
 | .slx _ _ _,_,_,h=>by cases h
 | .imm _,_,_,h=>by cases h
 | .agg cs,_,hv,h=>by cases hv with|agg q=>exact .agg (VAs.rj q h)
 | .tup cs,_,hv,h=>by cases hv with|tup q=>exact .tup (VAs.rj q h)
 | .fn i a c,_,hv,h=>by
  have h:(fh a&&fh c)=true:=h;rw[Bool.and_eq_true] at h;cases hv with|fn _ h1 h2=>exact .fn i (VAs.rj h1 h.1) (VAs.rj h2 h.2)
 | .ifc t x,_,hv,h=>by cases hv with|ifc _ q=>exact .ifc t (VA.rj q h)
 | .bool _,_,hv,_=>by cases hv;exact .bool _
 | .int _ _,_,hv,_=>by cases hv;exact .int _ _
 | .str _,_,hv,_=>by cases hv;exact .str _
 | .aT,_,hv,_=>by cases hv;exact .aT
 | .cX,_,hv,_=>by cases hv;exact .cX
 | .cY,_,hv,_=>by cases hv;exact .cY
 | .dy,_,hv,_=>by cases hv;exact .dy
 | .cN,_,hv,_=>by cases hv;exact .cN
 | .loc _ _,_,hv,_=>by cases hv;exact .loc _ _
 | .el _ _ _ _,_,hv,_=>by cases hv with|el _ _ _ hb=>exact .el _ _ _ hb
 | .ms _ _ _ _,_,hv,_=>by
  cases hv with
  |msN _ hb=>exact .msN _ hb
  |ms _ _ _ hb=>exact .ms _ _ _ hb
  |msE _ _ hl=>exact .msE _ _ hl
 | .mp _,_,hv,_=>by cases hv;exact .mp _
 | .it _,_,hv,_=>by cases hv;exact .it _
 | .undef,v,_,_=>.undef v
theorem VAs.rj:∀{xs:List AV} {vs:List SV},VAs F g vs xs->fh xs=true->VAs F' g vs xs
 | [],_,hv,_=>by cases hv;exact .nil
 |x::l,_,hv,h=>by
  have h:(lJ x&&fh l)=true:=h;rw[Bool.and_eq_true] at h;cases hv with|cons a b=>exact .cons (VA.rj a h.1) (VAs.rj b h.2)
end
theorem yZ:∀{Q:List (List AV)},(∀r∈Q,fh r=true)->fh Q.flatten=true
 | [],_=>rfl
 |r::Q,h=>by
  have ap:∀{a b:List AV},fh a=true->fh b=true->fh (a++b)=true:=fun {a}=>by
   induction a with
   |nil=>exact fun _ h=>h
   |cons x l ih=>
    intro b h1 h2;have h1:(lJ x&&fh l)=true:=h1;rw[Bool.and_eq_true] at h1;show (lJ x&&fh (l++b))=true;rw[Bool.and_eq_true];exact ⟨h1.1,ih h1.2 h2⟩
  exact ap (h r (by simp)) (yZ fun r hr=>h r (by simp[hr]))
theorem RowsK.lJ {α:Type} {enc:α->List AV} {rows:List α->List (List AV)} (R:RowsK enc rows) (h:∀x,fh (enc x)=true) (xs:List α):∀r∈rows xs,fh r=true:=by
 rw[R.map];intro r hr;obtain ⟨x,_,e⟩:=List.mem_map.1 hr;rw[<-e];exact h x
theorem bl.aiC {m:P1} {f k s n RK s':Nat} {z z':Bool} {e e':TypeId} {Q Q':List (List AV)} {xs xs0:List AV} {y:AV} (h:bl E f [] xs0 y [(RK,.rows z' e' s' Q')]) (hy:lJ y=true) (hky:((bR y).all fun j=>Nat.beq j RK)=true) (hx:kr k (m.app (sel z (.sln e s Q) (.slice e s Q))) (fun _=>.undef) xs=xs0) (hq:Q.length=n) (ho:lI k xs= [(s,n)]) (hne:Nat.beq RK k=false) (hd:∀r∈Q',fh r=true):
  bl E f [(k,.rows z e s Q)] xs y [(k,.rows z e s Q),(RK,.rows z' e' s' Q')]:=.mk fun {F g φ hh aa} ent has=>by
 subst hq;subst hx;have hne:RK≠k:=fun e=>by rw[(beq_iff _ _).2 e] at hne;cases hne
 have hb:lk k [(k,Bx.rows z e s Q)]=some (.rows z e s Q):=by rw[bh,if_pos rfl]
 have zP:=ent.bx k _ hb;let F1:Hf:=fun i=>if i∈φ k then hh.hp.get i else F i
 have nf:∀i∈φ k,F i=none:=ent.nf k _ hb;have hF:Hle F F1:=fun id o hi=>by
  show (if id∈φ k then hh.hp.get id else F id)=some o
  split
  ·exact ent.sub id o hi
  ·exact hi
 have qK:Hle F1 hh.hp.get:=fun id o hi=>by
  have hi:(if id∈φ k then hh.hp.get id else F id)=some o:=hi
  split at hi
  ·exact hi
  ·exact ent.sub id o hi
 have ed:(sel z (.sln e s Q) (.slice e s Q):AV)=sO (.rows z e s Q):=by cases z<;>rfl
 have zv:EJ F F1 g k (m.app (sel z (.sln e s Q) (.slice e s Q))) (fun _=>.undef) s Q.length:=by
  rw[ed];have:=qe (x:=false) (F:=F) (F':=F1) (g:=g) (hp:=hh.hp.get) (K:=k) (b:=.rows z e s Q) (fp:=φ k) hF rfl (fun i hi=>if_pos hi) zP
  exact ⟨hF,fun v hv=>m.va (this.ms v hv),fun v off _=>.undef v⟩
 have aad:Ent F1 g φ [] hh:=by
  refine ⟨fun t x hx=>(by cases hx),fun k b hb=>(by cases hb),fun k k' b b' hb=>(by cases hb),fun k b hb=>(by cases hb),qK,ent.bd,Nat.le_refl _,fun x _ _=>rfl,Hle.refl _,fun id o hi=>.inl hi,fun k b hb=>(by cases hb),fun x hx=>(by cases hx),fun k hk=> ?_⟩
  have:(lk k ([]:List (Nat×Bx))).isSome=true:=hk;cases this
 have ZR:VAs F1 g aa (kr k (m.app (sel z (.sln e s Q) (.slice e s Q))) (fun _=>.undef) xs):=VAs.frz zv has fun q hq=>by
  rw[ho] at hq;simpa using hq
 obtain ⟨F2,g2,φ2,h1,v,go,hv,r⟩:=h.go aad ZR;have hRK:lk RK [(RK,Bx.rows z' e' s' Q')]=some (.rows z' e' s' Q'):=by rw[bh,if_pos rfl]
 have q2:=r.bx RK _ hRK;have Qy:∀i∈φ2 RK,hh.nx<=i:=fun i hi=>(r.g7 RK _ hRK i hi).elim (fun c=>by
  have:(lk RK ([]:List (Nat×Bx))).isSome=true:=c.1;cases this) fun c=>c
 have Kk:∀i∈φ k,i<hh.nx:=fun i hi=>by
  by_cases hlt:i<hh.nx
  ·exact hlt
  ·exact absurd (ent.bd i (show hh.nx<=i by omega)) (zP.there i hi)
 have gf:∀x,x<hh.nx->h1.hp.get x=hh.hp.get x:=fun x hx=>r.old x hx fun k' hp=>by
  have:(lk k' ([]:List (Nat×Bx))).isSome=true:=hp.1;cases this
 let g3:Gb:=⟨fun j=>if j=k then g.ρ j else g2.ρ j,fun j=>if j=k then g.κ j else g2.κ j,fun j=>if j=k then g.β j else g2.β j⟩
 have g3k:gq g g3 [k]:=fun j hj=>by
  have e:j=k:=by simpa using hj
  exact ⟨if_pos e,if_pos e,if_pos e⟩
 have g3o:gq g2 g3 [RK]:=fun j hj=>by
  have e:j≠k:=by rw[show j=RK by simpa using hj];exact hne
  exact ⟨if_neg e,if_neg e,if_neg e⟩
 have lks:∀{j b},lk j [(k,Bx.rows z e s Q),(RK,Bx.rows z' e' s' Q')]=some b->(j=k/\b= .rows z e s Q)\/(j=RK/\j≠k/\b= .rows z' e' s' Q'):=fun {j b} hj=>by
  rw[bh,bh] at hj;split at hj
  ·cases hj;exact .inl ⟨by assumption,rfl⟩
  ·split at hj
   ·cases hj;exact .inr ⟨by assumption,by assumption,rfl⟩
   ·cases hj
 have YB:Hle F h1.hp.get:=fun id o hi=>r.sub id o (r.f0 id o (hF id o hi))
 have flt:∀i o,F i=some o->i<hh.nx:=fun i o hi=>by
  by_cases hlt:i<hh.nx
  ·exact hlt
  ·have:=ent.sub i o hi;rw[ent.bd i (show hh.nx<=i by omega)] at this;cases this
 refine ⟨F,g3,fun j=>if j=k then φ k else φ2 j,h1,v,go,?_,?_⟩
 ·exact (hv.rj hy).gb (fun j hj=>g3o j (List.mem_singleton.2 ((beq_iff _ _).1 (List.all_eq_true.1 hky j hj))))
 ·refine ⟨fun t x hx=>(by cases hx),fun j b hj=> ?_,fun j j' b b' hj hj' hjj i hi=> ?_,fun j b hj i hi=> ?_,YB,r.bd,r.nx,fun x hx _=>gf x hx,Hle.refl _,fun id o hi=>.inl hi,fun j b hj i hi=> ?_,fun x hx=> ?_,fun j hj=> ?_⟩
  ·rcases lks hj with ⟨rfl,rfl⟩|⟨rfl,hjk,rfl⟩
   ·rw[if_pos rfl];exact cD.gf (Hle.refl F) (zP.gb g3k (fun _ hc=>by cases hc)) fun i hi=>gf i (Kk i hi)
   ·rw[if_neg hjk];have:cD F g2 h1.hp.get j (.rows z' e' s' Q') (φ2 j):=by
     generalize φ2 j=fp at q2 ⊢;cases q2 with
     |cI hb0=>exact .cI hb0
     |rows hb0 hh0 hz hu hc q=>exact .rows hb0 hh0 hz hu hc (VAs.rj q (yZ hd))
    exact this.gb g3o (fun _ hc=>by cases hc)
  ·rcases lks hj with ⟨rfl,rfl⟩|⟨rfl,hjk,rfl⟩<;>rcases lks hj' with ⟨rfl,rfl⟩|⟨rfl,hjk',rfl⟩
   ·exact absurd rfl hjj
   ·rw[if_pos rfl] at hi;rw[if_neg hjk'];exact fun hc=>by have:=Qy i hc;have:=Kk i hi;omega
   ·rw[if_neg hjk] at hi;rw[if_pos rfl];exact fun hc=>by have:=Qy i hi;have:=Kk i hc;omega
   ·exact absurd rfl hjj
  ·rcases lks hj with ⟨rfl,rfl⟩|⟨rfl,hjk,rfl⟩
   ·rw[if_pos rfl] at hi;exact nf i hi
   ·rw[if_neg hjk] at hi;cases hf:F i with
    |none=>rfl
    |some o=>have:=flt i o hf;have:=Qy i hi;omega
  ·rcases lks hj with ⟨rfl,rfl⟩|⟨rfl,hjk,rfl⟩
   ·rw[if_pos rfl] at hi;exact .inl ⟨by show (lk j [(j,Bx.rows z e s Q)]).isSome=true;rw[hb];rfl,hi⟩
   ·rw[if_neg hjk] at hi;exact .inr (Qy i hi)
  ·rcases r.lg x hx with ⟨k',hp⟩|hp
   ·have:(lk k' ([]:List (Nat×Bx))).isSome=true:=hp.1;cases this
   ·exact .inr hp
  ·have hj:(lk j [(k,Bx.rows z e s Q)]).isSome=true:=hj;rw[bh] at hj;split at hj
   ·rename_i e;rw[e];exact g3k
   ·cases hj
theorem bl.lend {m:P1} {f k s n RK s' n':Nat} {z z':Bool} {e e':TypeId} {Q Q':List (List AV)} {xs xs0:List AV} (h:bl E f [] xs0 (.ms RK s' 0 n') [(RK,.rows z' e' s' Q')]) (hx:kr k (m.app (sel z (.sln e s Q) (.slice e s Q))) (fun _=>.undef) xs=xs0) (hq:Q.length=n) (ho:lI k xs= [(s,n)]) (hne:Nat.beq RK k=false) (hd:∀r∈Q',fh r=true):
  bl E f [(k,.rows z e s Q)] xs (.ms RK s' 0 n') [(k,.rows z e s Q),(RK,.rows z' e' s' Q')]:=h.aiC rfl (by rw[List.all_eq_true];intro j hj;rw[beq_iff];simpa[bR] using hj) hx hq ho hne hd
theorem bl.acs {m:P1} {x:Bool} {f k:Nat} {b:Bx} {xs xs0:List AV} {y:AV} (h:bl E f [] xs0 y []) (hb0:fY b=true) (hx:kr k (m.app (Ej x b)) (fun _=>.undef) xs=xs0) (ho:lI k xs= [zW b]) (hd:lJ y=true) (hk:(bR y).isEmpty=true):
  bl E f [(k,b)] xs y [(k,b)]:=.mk fun {F g φ hh aa} ent has=>by
 subst hx;have hb:lk k [(k,b)]=some b:=by rw[bh,if_pos rfl]
 have zP:=ent.bx k _ hb;let F1:Hf:=fun i=>if i∈φ k then hh.hp.get i else F i
 have nf:∀i∈φ k,F i=none:=ent.nf k _ hb;have hF:Hle F F1:=fun id o hi=>by
  show (if id∈φ k then hh.hp.get id else F id)=some o
  split
  ·exact ent.sub id o hi
  ·exact hi
 have qK:Hle F1 hh.hp.get:=fun id o hi=>by
  have hi:(if id∈φ k then hh.hp.get id else F id)=some o:=hi
  split at hi
  ·exact hi
  ·exact ent.sub id o hi
 have zv:EJ F F1 g k (m.app (Ej x b)) (fun _=>.undef) (zW b).1 (zW b).2:=by
  have:=qe (x:=x) (F:=F) (F':=F1) (g:=g) (hp:=hh.hp.get) (K:=k) (b:=b) (fp:=φ k) hF hb0 (fun i hi=>if_pos hi) zP
  exact ⟨hF,fun v hv=>m.va (this.ms v hv),fun v off _=>.undef v⟩
 have aad:Ent F1 g φ [] hh:=by
  refine ⟨fun t x hx=>(by cases hx),fun k b hb=>(by cases hb),fun k k' b b' hb=>(by cases hb),fun k b hb=>(by cases hb),qK,ent.bd,Nat.le_refl _,fun x _ _=>rfl,Hle.refl _,fun id o hi=>.inl hi,fun k b hb=>(by cases hb),fun x hx=>(by cases hx),fun k hk=> ?_⟩
  have:(lk k ([]:List (Nat×Bx))).isSome=true:=hk;cases this
 have ZR:VAs F1 g aa (kr k (m.app (Ej x b)) (fun _=>.undef) xs):=VAs.frz zv has fun q hq=>by
  rw[ho] at hq;simpa using hq
 obtain ⟨F2,g2,φ2,h1,v,go,hv,r⟩:=h.go aad ZR;have Kk:∀i∈φ k,i<hh.nx:=fun i hi=>by
  by_cases hlt:i<hh.nx
  ·exact hlt
  ·exact absurd (ent.bd i (show hh.nx<=i by omega)) (zP.there i hi)
 have gf:∀x,x<hh.nx->h1.hp.get x=hh.hp.get x:=fun x hx=>r.old x hx fun k' hp=>by
  have:(lk k' ([]:List (Nat×Bx))).isSome=true:=hp.1;cases this
 have lks:∀{j c},lk j [(k,b)]=some c->j=k/\b=c:=fun {j c} hj=>by
  rw[bh] at hj;split at hj
  ·cases hj;exact ⟨by assumption,rfl⟩
  ·cases hj
 have YB:Hle F h1.hp.get:=fun id o hi=>r.sub id o (r.f0 id o (hF id o hi))
 refine ⟨F,g,φ,h1,v,go,(hv.rj hd).fY hk,?_⟩;refine ⟨fun t x hx=>(by cases hx),fun j b hj=> ?_,fun j j' b b' hj hj' hjj i hi=> ?_,fun j b hj i hi=> ?_,YB,r.bd,r.nx,fun x hx _=>gf x hx,Hle.refl _,fun id o hi=>.inl hi,fun j b hj i hi=> ?_,fun x hx=> ?_,fun j hj=> ?_⟩
 ·obtain ⟨rfl,rfl⟩:=lks hj;exact cD.gf (Hle.refl F) zP fun i hi=>gf i (Kk i hi)
 ·obtain ⟨rfl,rfl⟩:=lks hj;obtain ⟨rfl,rfl⟩:=lks hj';exact absurd rfl hjj
 ·obtain ⟨rfl,rfl⟩:=lks hj;exact nf i hi
 ·obtain ⟨rfl,rfl⟩:=lks hj;exact .inl ⟨by show (lk j [(j,b)]).isSome=true;rw[hb];rfl,hi⟩
 ·rcases r.lg x hx with ⟨k',hp⟩|hp
  ·have:(lk k' ([]:List (Nat×Bx))).isSome=true:=hp.1;cases this
  ·exact .inr hp
 ·exact fun _ _=>⟨rfl,rfl,rfl⟩
theorem bl.aiA {m:P1} {f k s n:Nat} {z:Bool} {e:TypeId} {Q:List (List AV)} {xs xs0:List AV} {y:AV} (h:bl E f [] xs0 y []) (hx:kr k (m.app (sel z (.sln e s Q) (.slice e s Q))) (fun _=>.undef) xs=xs0) (hq:Q.length=n) (ho:lI k xs= [(s,n)]) (hd:lJ y=true) (hk:(bR y).isEmpty=true):
  bl E f [(k,.rows z e s Q)] xs y [(k,.rows z e s Q)]:=by
 subst hq;exact h.acs (m:=m) (x:=false) rfl (by cases z<;>exact hx) ho hd hk
theorem bl.aiB {m:P1} {x:Bool} {f k s n:Nat} {e e':TypeId} {Q:List (Option (List (List AV)))} {P:List (List AV)} {xs xs0:List AV} {y:AV} (h:bl E f [] xs0 y []) (hP:Q.map (zD x e' s)=P) (hx:kr k (m.app (.slice e 1 P)) (fun _=>.undef) xs=xs0) (hq:Q.length=n) (ho:lI k xs= [(1,n)]) (hd:lJ y=true) (hk:(bR y).isEmpty=true):
  bl E f [(k,.own e e' s Q none)] xs y [(k,.own e e' s Q none)]:=by
 subst hq;subst hP;exact h.acs (m:=m) (x:=x) rfl hx ho hd hk
theorem bl.pm {f:Nat} {bs bs':List (Nat×Bx)} {xs:List AV} {y:AV} (m:P1) (h:bl E f bs xs y bs'):bl E f bs xs (m.app y) bs':=.mk fun ent has=>by
 obtain ⟨F',g',φ',h1,v,a,b,c⟩:=h.go ent has;exact ⟨F',g',φ',h1,v,a,m.va b,c⟩
end
end Go.Sim
namespace Go.Sim
open Go.RowKit
section
def img (nb:Nat):Value->SV
 | .bool b=>.bool b
 | .int k n=>.int k (.lit n)
 | .string s=>.str s
 | .slice a n c=>
  if n=0 then (if a=none/\c=0 then .aT else .sle)
  else (match a with
   |some ⟨b,o,none⟩=>if b<nb/\n<=c then .sl b o n (.k c) else .undef
   |_=>.undef)
 |_=>.undef
def KS (nb:Nat):Value->SV
 | .agg cs=>.agg (cs.toList.map (img nb))
 |v=>img nb v
def Q8 (nb:Nat):Obj->Option SO
 | .cells cur _ _=>some (.ro (cur.toList.map (img nb)))
 |_=>none
def mir (nb:Nat):List Obj->Nat->Hp
 | [],_=>.nil
 |o::l,i=>(mir nb l (i+1)).set i (Q8 nb o)
def kA (W:World):Hp:=mir W.heap.size W.heap.toList 0
def gW (P:Program) (W:World):Gh:=⟨fun _=>0,P.cellsOf,fun id=>if id<W.heap.size then some (id,0) else none,fun _=>0,fun _=>0,fun b=>W.heap[b]?⟩
theorem O6 (nb:Nat):∀(l:List Obj) (i x:Nat),(mir nb l i).get x=if x<i then none else (l[x-i]?).bind (Q8 nb)
 | [],i,x=>by show (Tr.nil:Hp).get x=_;simp;rfl
 |o::l,i,x=>by
  show ((mir nb l (i+1)).set i (Q8 nb o)).get x=_;rw[Tr.da];by_cases hx:x=i
  ·subst hx;simp
  ·rw[if_neg hx,O6 nb l (i+1) x];by_cases hlt:x<i
   ·rw[if_pos hlt,if_pos (by omega)]
   ·rw[if_neg hlt,if_neg (by omega),show x-i=(x-(i+1))+1 by omega,List.getElem?_cons_succ]
theorem ui (W:World) (x:Nat):(kA W).get x=(W.heap[x]?).bind (Q8 W.heap.size):=by
 unfold kA;rw[O6];simp
variable {P:Program} {W:World}
theorem Xw (v:Value):VR (gW P W) v (img W.heap.size v):=by
 unfold img;split
 ·exact .bool _
 ·exact .int _ _ rfl
 ·exact .str _
 ·rename_i a n c;split
  ·rename_i hn;subst hn;split
   ·rename_i h;obtain ⟨rfl,rfl⟩:=h;exact .aT
   ·exact .sle
  ·split
   ·rename_i b o;split
    ·rename_i h;have:=VR.sl (g:=gW P W) (id:=b) (off:=o) (n:=n) (b:=b) (o:=0) (c:=c) (cap:=.k c) (by show (if b<W.heap.size then some (b,0) else none)=_;rw[if_pos h.1]) h.2 (fun m hm=>by cases hm;rfl) (fun e he=>by cases he)
     rwa[Nat.zero_add] at this
    ·exact .undef _
   ·exact .undef _
 ·exact .undef _
theorem aeX {nb:Nat} {v:Value} (h:isU (img nb v)=false):v.oneCell'=true:=by
 cases v<;>first|rfl|(cases h;done)
theorem agx:HR (gW P W) (kA W).get W:=by
 refine ⟨fun id o ho=> ?_,fun i j x y b c d hx hy h1 h2=> ?_⟩
 ·rw[ui] at ho;cases hb:W.heap[id]? with
  |none=>rw[hb] at ho;cases ho
  |some ob=>
   have hlt:id<W.heap.size:=(Array.getElem?_eq_some_iff.1 hb).1;refine ⟨id,0,if_pos hlt,hlt,?_⟩;rw[hb] at ho;cases ob with
   |cells cur e fz=>
    cases ho;refine ⟨cur,e,fz,hb,hb,fun j x hx=> ?_⟩
    rw[List.getElem?_map] at hx;cases hv:cur.toList[j]? with
    |none=>rw[hv] at hx;cases hx
    |some v=>
     rw[hv] at hx;cases hx;exact ⟨v,by rw[Nat.zero_add];simpa using hv,fun hu=>⟨aeX hu,Xw v⟩⟩
   |_=>cases ho
 ·have k1:(if i<W.heap.size then some (i,0) else none)=some (b,c):=h1
  have k2:(if j<W.heap.size then some (j,0) else none)=some (b,d):=h2
  split at k1
  ·split at k2
   ·cases k1;cases k2;rfl
   ·cases k2
  ·cases k1
variable {E:Env} {g:Gh} {w:World}
theorem PY (hS:kM E) {n:Nat} {k:FuncId} {aa:List SV} {v:SV} {h h':Hs} (hb:Bd h) (eJ:run E n (.call (.fn (.func k) [] []) aa h)= .bX [⟨false,v,h'⟩]) (hgo:uE E (.fn (.func k) [] [])=true) (hE:bC E g) (hr:HR g h.hp.get w) (hfr:∀x,h.nx<=x->g.ρ x=none)
  {us:List Value} (hus:VRs g us aa) (m:Nat):CallsIn Fence.wide m E.P k us.toArray w fun e w'=>∃r g',e= .returned r/\VR g' r v/\HR g' h'.hp.get w'/\Fr g h.hp.get w g' h'.hp.get w':=by
 have hs:=vD hS n (.call (.fn (.func k) [] []) aa h);rw[eJ] at hs;obtain ⟨_,_,sem⟩:=(show Bd h->_ from hs) hb;obtain ⟨k',fi,ca,fn,e1,hfn,gj⟩:=rZ hgo;cases e1;obtain ⟨d,hd1,hd2⟩:=sem.one m g w (.func (.func k) #[] #[]) us hE hr hfr (.fn .nil .nil) hus;have hd:d={target:=.fn (.func k) #[],args:= #[]++us.toArray}:=by
  rw[qz] at hd1;cases hd1;rfl
 subst hd;have py:∀(args:Array Value) (w:World),(invoke (.fn (.func k) #[]) args).run E.P w=(callFunc k (args++ #[])).run E.P w:=fun _ _=>rfl
 rcases gF (hS.fn k fn hfn).1 gj (#[]++us.toArray++ #[]) w with ⟨hc,_⟩|hc
 ·rcases hd2 with ⟨k',as',q1,q2⟩|⟨l,k',t',as',b',q1,_⟩|⟨r,w',q1,_⟩<;>(rw[py,hc] at q1;cases q1)
 ·rcases hd2 with ⟨k',as',q1,q2⟩|⟨l,k',t',as',b',q1,_⟩|⟨r,w',q1,_⟩
  ·rw[py,hc] at q1;cases q1;have e: #[]++us.toArray++ #[]=us.toArray:=by simp
   rw[e] at q2;refine CallsIn.mono q2 ?_;rintro e w' ⟨r,rfl,g',h1,h2,h3,_,_⟩;exact ⟨r,g',rfl,h1,h2,h3⟩
  ·rw[py,hc] at q1;cases q1
  ·rw[py,hc] at q1;cases q1
theorem RZ {E:Env} (hS:kM E) (hE:bC E (gW E.P W)) {f:FuncId} {xs:List AV} {b:Bool} (hc:bl E f [] xs (.bool b) []) (hgo:uE E (.fn (.func f) [] [])=true)
  {us:List Value} {aa:List SV} (hx:VAs (kA W).get .no aa xs) (hus:VRs (gW E.P W) us aa):Calls E.P f us.toArray W fun e W'=>e= .returned (.bool b)/\Below W.heap.size W W':=by
 let h:Hs:=⟨kA W,W.heap.size,[]⟩;have hbd:Bd h:=fun x hx=>by
  show (kA W).get x=none;rw[ui,Array.getElem?_eq_none hx];rfl
 have hent:Ent (kA W).get .no (fun _=> []) [] h:=by
  refine ⟨fun t x hx=>(by cases hx),fun k b hb=>(by cases hb),fun k k' b b' hb=>(by cases hb),fun k b hb=>(by cases hb),Hle.refl _,hbd,Nat.le_refl _,fun _ _ _=>rfl,Hle.refl _,fun _ _ h=>.inl h,fun k b hb=>(by cases hb),fun x hx=>(by cases hx),fun k hk=>(by cases hk)⟩
 obtain ⟨F',g',φ',h1,v,⟨n0,aiP⟩,hv,hrel⟩:=hc.go hent hx;have:=callsIn_wide.1 (PY hS hbd (aiP n0 (Nat.le_refl _)) hgo hE agx (fun x hx=>if_neg (Nat.not_lt.2 hx)) hus 0)
 refine this.mono ?_;rintro e W' ⟨r,g2,rfl,k1,k2,k3⟩;cases hv;cases k1;refine ⟨rfl,k3.os,k3.tape,k3.output,k3.size,fun x hx=> ?_⟩
 have hold:h1.hp.get x=(kA W).get x:=hrel.old x hx fun k hk=>by cases hk.1
 cases hm:(kA W).get x with
 |none=>
  refine k3.old x hx fun ⟨id,o,c,z1,z2⟩=> ?_
  have z2:(if id<W.heap.size then some (id,0) else none)=some (x,c):=z2
  split at z2
  ·cases z2;have z1:(kA W).get x=some o:=z1;rw[hm] at z1;cases z1
  ·cases z2
 |some o=>
  rw[hm] at hold;obtain ⟨b',c',y1,y2,y3⟩:=k2.ob x o hold;have y0:g2.ρ x=some (x,0):=k3.le.ρ x (x,0) (if_pos hx);rw[y0] at y1;cases y1;rw[ui] at hm;cases hb:W.heap[x]? with
  |none=>rw[hb] at hm;cases hm
  |some ob=>
   rw[hb] at hm;cases ob with
   |cells cur e fz=>
    cases hm;obtain ⟨cur',e',fz',w1,w2,_⟩:=y3;have w3:g2.wb x=W.heap[x]? :=congrFun k3.le.wb x;rw[w1,<-w2,w3,hb]
   |_=>cases hm
end
end Go.Sim
namespace Go.Sim
section
def m1A (x:AV):P1:=match x with
 | .slice e s _=>.sl e s
 | .sln e s _=>.sn e s
 | .slx e s _=>.sx e s
 | .undef=>.un
 |_=>.same
def pmA (x:AV):PM:=match x with
 | .agg l=>.agg (l.map m1A)
 |x=>.one (m1A x)
def pbA (b:Bx):PB:=match b with
 | .flat _ l=>.flat (l.map m1A)
 | .rows z _ _ _=>sel z .same .any
 |_=>.same
def TE (p:List Nat) (s:LS):so:= [(p,s.ts.map fun q=>(q.1,pmA q.2),s.bs.map fun q=>(q.1,pbA q.2))]
variable {E:Env} {X:Fx E} {p p':List Nat} {s s':LS} {y:AV} {bs':List (Nat×Bx)} {α β R:Type}
theorem ra (k:At X p' s' y bs') (sc:Sc E) (h:JG (rE X (TE p' s') p s sc)=JH (.at p' s') (rE X (TE p' s') p s sc):=by kernel_rfl):At X p s y bs':=agd h k
theorem rr {f:α->AV} {g:α->List (Nat×Bx)} {v r:α} (h:some v=some r) (sc:Sc E) (e:JG (rE X [] p s sc)=JH (.ret (f v) (g v)) (rE X [] p s sc):=by kernel_rfl):At X p s (f r) (g r):=by
 cases h;exact aev e
theorem be {x:Option β} {f:β->Option α} {r:α} {G:Prop} (h:x.bind f=some r) (k:∀y,x=some y->f y=some r->G):G:=XS h k
theorem ie {b:Bool} {x y:Option α} {r:α} {G:Prop} (h:(if b=true then x else y)=some r) (k1:b=true->x=some r->G) (k2:b=false->y=some r->G):G:=Zl h k1 k2
theorem nz {r:α} {G:Prop} (h:none=some r):G:=by cases h
def fx (E:Env) (fn:Func) (pks outs:List Nat):Fx E:=⟨fn,fn.body.getD .skip,pks,outs⟩
def Cx (E:Env) (k:Nat) (f:R->AV) (g:R->List (Nat×Bx)) (s:LS) (r:R):Prop:=bl E k s.bs (s.ts.map (·.2)) (f r) (g r)
theorem ca {k:Nat} {r:R} {f:R->AV} {g:R->List (Nat×Bx)} (h:At X [] s (f r) (g r)) (h1:E.fn.get k=some X.fn:=by kernel_rfl) (h2:X.fn.body=some X.code:=by kernel_rfl) (h3:oA X.fn.name=false:=by kernel_rfl) (h4:r7 k E.done=none:=by kernel_rfl)
  (h9:Nat.ble (s.ts.map (·.2)).length X.fn.ntmps=true:=by kernel_rfl) (h10:qF s.bs=X.pks:=by kernel_rfl) (h11:(⟨pJ 0 (s.ts.map (·.2)),s.bs⟩:LS)=s:=by kernel_rfl):Cx E k f g s r:=
 NR ⟨h1,h2,h3,h4⟩ h9 h10 h11 h
abbrev eb {a b:Bool} (h:a=b):It E:=.eqv (congrArg AV.bool h)
abbrev en {k:IntKind} {a b:Int} (h:(a==b)=true):It E:=.eqv (int_eq (k:=k) h)
theorem cb {f:Nat} {bs bs':List (Nat×Bx)} {xs:List AV} {a b:Bool} (h:bl E f bs xs (.bool a) bs') (e:a=b):bl E f bs xs (.bool b) bs':=NS h e
theorem ci {f:Nat} {k:IntKind} {bs bs':List (Nat×Bx)} {xs:List AV} {a b:Int} (h:bl E f bs xs (.int k a) bs') (e:(a==b)=true):bl E f bs xs (.int k b) bs':=h.cast (int_eq e)
def Ax (X:Fx E) (f:R->AV) (g:R->List (Nat×Bx)) (p:List Nat) (s:LS) (r:R):Prop:=At X p s (f r) (g r)
theorem cd {f K s n:Nat} {z:Bool} {e:TypeId} {Q:List (List AV)} {bs bs':List (Nat×Bx)} {xs:List AV} (h:bl E f bs xs (.ms K s 0 n) bs') (hq:Q.length=n) (hl:lk K bs'=some (.rows z e s Q):=by kernel_rfl) (hn:lk K bs=none:=by kernel_rfl) (hb:oN K bs'= []:=by kernel_rfl):
  bl E f bs xs (sel z (.sln e s Q) (.slice e s Q)) ((bG K bs').map fun p=>(p.1,Bx.frz K (sel z (.sln e s Q) (.slice e s Q)) (fun _=>.undef) p.2)):=h.dat hl hn hq hb
def K0 (A:LS->R->Prop) (s:LS) (k:Option R):Prop:=∀ ⦃r:R⦄,k=some r->A (s) r
def K1 {T0:Type} (A:LS->R->Prop) (s:T0->LS) (k:T0->Option R):Prop:=∀ ⦃a0:T0⦄ ⦃r:R⦄,k a0=some r->A (s a0) r
def K2 {T0 T1:Type} (A:LS->R->Prop) (s:T0->T1->LS) (k:T0->T1->Option R):Prop:=∀ ⦃a0:T0⦄ ⦃a1:T1⦄ ⦃r:R⦄,k a0 a1=some r->A (s a0 a1) r
def K3 {T0 T1 T2:Type} (A:LS->R->Prop) (s:T0->T1->T2->LS) (k:T0->T1->T2->Option R):Prop:=∀ ⦃a0:T0⦄ ⦃a1:T1⦄ ⦃a2:T2⦄ ⦃r:R⦄,k a0 a1 a2=some r->A (s a0 a1 a2) r
def K4 {T0 T1 T2 T3:Type} (A:LS->R->Prop) (s:T0->T1->T2->T3->LS) (k:T0->T1->T2->T3->Option R):Prop:=∀ ⦃a0:T0⦄ ⦃a1:T1⦄ ⦃a2:T2⦄ ⦃a3:T3⦄ ⦃r:R⦄,k a0 a1 a2 a3=some r->A (s a0 a1 a2 a3) r
def K5 {T0 T1 T2 T3 T4:Type} (A:LS->R->Prop) (s:T0->T1->T2->T3->T4->LS) (k:T0->T1->T2->T3->T4->Option R):Prop:=∀ ⦃a0:T0⦄ ⦃a1:T1⦄ ⦃a2:T2⦄ ⦃a3:T3⦄ ⦃a4:T4⦄ ⦃r:R⦄,k a0 a1 a2 a3 a4=some r->A (s a0 a1 a2 a3 a4) r
def K6 {T0 T1 T2 T3 T4 T5:Type} (A:LS->R->Prop) (s:T0->T1->T2->T3->T4->T5->LS) (k:T0->T1->T2->T3->T4->T5->Option R):Prop:=∀ ⦃a0:T0⦄ ⦃a1:T1⦄ ⦃a2:T2⦄ ⦃a3:T3⦄ ⦃a4:T4⦄ ⦃a5:T5⦄ ⦃r:R⦄,k a0 a1 a2 a3 a4 a5=some r->A (s a0 a1 a2 a3 a4 a5) r
def K7 {T0 T1 T2 T3 T4 T5 T6:Type} (A:LS->R->Prop) (s:T0->T1->T2->T3->T4->T5->T6->LS) (k:T0->T1->T2->T3->T4->T5->T6->Option R):Prop:=∀ ⦃a0:T0⦄ ⦃a1:T1⦄ ⦃a2:T2⦄ ⦃a3:T3⦄ ⦃a4:T4⦄ ⦃a5:T5⦄ ⦃a6:T6⦄ ⦃r:R⦄,k a0 a1 a2 a3 a4 a5 a6=some r->A (s a0 a1 a2 a3 a4 a5 a6) r
def K8 {T0 T1 T2 T3 T4 T5 T6 T7:Type} (A:LS->R->Prop) (s:T0->T1->T2->T3->T4->T5->T6->T7->LS) (k:T0->T1->T2->T3->T4->T5->T6->T7->Option R):Prop:=∀ ⦃a0:T0⦄ ⦃a1:T1⦄ ⦃a2:T2⦄ ⦃a3:T3⦄ ⦃a4:T4⦄ ⦃a5:T5⦄ ⦃a6:T6⦄ ⦃a7:T7⦄ ⦃r:R⦄,k a0 a1 a2 a3 a4 a5 a6 a7=some r->A (s a0 a1 a2 a3 a4 a5 a6 a7) r
def K9 {T0 T1 T2 T3 T4 T5 T6 T7 T8:Type} (A:LS->R->Prop) (s:T0->T1->T2->T3->T4->T5->T6->T7->T8->LS) (k:T0->T1->T2->T3->T4->T5->T6->T7->T8->Option R):Prop:=∀ ⦃a0:T0⦄ ⦃a1:T1⦄ ⦃a2:T2⦄ ⦃a3:T3⦄ ⦃a4:T4⦄ ⦃a5:T5⦄ ⦃a6:T6⦄ ⦃a7:T7⦄ ⦃a8:T8⦄ ⦃r:R⦄,k a0 a1 a2 a3 a4 a5 a6 a7 a8=some r->A (s a0 a1 a2 a3 a4 a5 a6 a7 a8) r
def K10 {T0 T1 T2 T3 T4 T5 T6 T7 T8 T9:Type} (A:LS->R->Prop) (s:T0->T1->T2->T3->T4->T5->T6->T7->T8->T9->LS) (k:T0->T1->T2->T3->T4->T5->T6->T7->T8->T9->Option R):Prop:=∀ ⦃a0:T0⦄ ⦃a1:T1⦄ ⦃a2:T2⦄ ⦃a3:T3⦄ ⦃a4:T4⦄ ⦃a5:T5⦄ ⦃a6:T6⦄ ⦃a7:T7⦄ ⦃a8:T8⦄ ⦃a9:T9⦄ ⦃r:R⦄,k a0 a1 a2 a3 a4 a5 a6 a7 a8 a9=some r->A (s a0 a1 a2 a3 a4 a5 a6 a7 a8 a9) r
def K11 {T0 T1 T2 T3 T4 T5 T6 T7 T8 T9 T10:Type} (A:LS->R->Prop) (s:T0->T1->T2->T3->T4->T5->T6->T7->T8->T9->T10->LS) (k:T0->T1->T2->T3->T4->T5->T6->T7->T8->T9->T10->Option R):Prop:=∀ ⦃a0:T0⦄ ⦃a1:T1⦄ ⦃a2:T2⦄ ⦃a3:T3⦄ ⦃a4:T4⦄ ⦃a5:T5⦄ ⦃a6:T6⦄ ⦃a7:T7⦄ ⦃a8:T8⦄ ⦃a9:T9⦄ ⦃a10:T10⦄ ⦃r:R⦄,k a0 a1 a2 a3 a4 a5 a6 a7 a8 a9 a10=some r->A (s a0 a1 a2 a3 a4 a5 a6 a7 a8 a9 a10) r
def K12 {T0 T1 T2 T3 T4 T5 T6 T7 T8 T9 T10 T11:Type} (A:LS->R->Prop) (s:T0->T1->T2->T3->T4->T5->T6->T7->T8->T9->T10->T11->LS) (k:T0->T1->T2->T3->T4->T5->T6->T7->T8->T9->T10->T11->Option R):Prop:=∀ ⦃a0:T0⦄ ⦃a1:T1⦄ ⦃a2:T2⦄ ⦃a3:T3⦄ ⦃a4:T4⦄ ⦃a5:T5⦄ ⦃a6:T6⦄ ⦃a7:T7⦄ ⦃a8:T8⦄ ⦃a9:T9⦄ ⦃a10:T10⦄ ⦃a11:T11⦄ ⦃r:R⦄,k a0 a1 a2 a3 a4 a5 a6 a7 a8 a9 a10 a11=some r->A (s a0 a1 a2 a3 a4 a5 a6 a7 a8 a9 a10 a11) r
def K13 {T0 T1 T2 T3 T4 T5 T6 T7 T8 T9 T10 T11 T12:Type} (A:LS->R->Prop) (s:T0->T1->T2->T3->T4->T5->T6->T7->T8->T9->T10->T11->T12->LS) (k:T0->T1->T2->T3->T4->T5->T6->T7->T8->T9->T10->T11->T12->Option R):Prop:=∀ ⦃a0:T0⦄ ⦃a1:T1⦄ ⦃a2:T2⦄ ⦃a3:T3⦄ ⦃a4:T4⦄ ⦃a5:T5⦄ ⦃a6:T6⦄ ⦃a7:T7⦄ ⦃a8:T8⦄ ⦃a9:T9⦄ ⦃a10:T10⦄ ⦃a11:T11⦄ ⦃a12:T12⦄ ⦃r:R⦄,k a0 a1 a2 a3 a4 a5 a6 a7 a8 a9 a10 a11 a12=some r->A (s a0 a1 a2 a3 a4 a5 a6 a7 a8 a9 a10 a11 a12) r
def K14 {T0 T1 T2 T3 T4 T5 T6 T7 T8 T9 T10 T11 T12 T13:Type} (A:LS->R->Prop) (s:T0->T1->T2->T3->T4->T5->T6->T7->T8->T9->T10->T11->T12->T13->LS) (k:T0->T1->T2->T3->T4->T5->T6->T7->T8->T9->T10->T11->T12->T13->Option R):Prop:=∀ ⦃a0:T0⦄ ⦃a1:T1⦄ ⦃a2:T2⦄ ⦃a3:T3⦄ ⦃a4:T4⦄ ⦃a5:T5⦄ ⦃a6:T6⦄ ⦃a7:T7⦄ ⦃a8:T8⦄ ⦃a9:T9⦄ ⦃a10:T10⦄ ⦃a11:T11⦄ ⦃a12:T12⦄ ⦃a13:T13⦄ ⦃r:R⦄,k a0 a1 a2 a3 a4 a5 a6 a7 a8 a9 a10 a11 a12 a13=some r->A (s a0 a1 a2 a3 a4 a5 a6 a7 a8 a9 a10 a11 a12 a13) r
def K16 {T0 T1 T2 T3 T4 T5 T6 T7 T8 T9 T10 T11 T12 T13 T14 T15:Type} (A:LS->R->Prop) (s:T0->T1->T2->T3->T4->T5->T6->T7->T8->T9->T10->T11->T12->T13->T14->T15->LS) (k:T0->T1->T2->T3->T4->T5->T6->T7->T8->T9->T10->T11->T12->T13->T14->T15->Option R):Prop:=∀ ⦃a0:T0⦄ ⦃a1:T1⦄ ⦃a2:T2⦄ ⦃a3:T3⦄ ⦃a4:T4⦄ ⦃a5:T5⦄ ⦃a6:T6⦄ ⦃a7:T7⦄ ⦃a8:T8⦄ ⦃a9:T9⦄ ⦃a10:T10⦄ ⦃a11:T11⦄ ⦃a12:T12⦄ ⦃a13:T13⦄ ⦃a14:T14⦄ ⦃a15:T15⦄ ⦃r:R⦄,k a0 a1 a2 a3 a4 a5 a6 a7 a8 a9 a10 a11 a12 a13 a14 a15=some r->A (s a0 a1 a2 a3 a4 a5 a6 a7 a8 a9 a10 a11 a12 a13 a14 a15) r
end
end Go.Sim
namespace Go.Sim
open Go.RowKit Go.Proofs.YtmealahmjddpcaaGreatDoor
section
mutual
def xL:AV->Nat
 | .str s=>s.size+1
 | .slx _ _ rows=>nF rows+1
 |_=>1
def nF:List (List AV)->Nat
 | []=>0
 |r::rs=>fX r+nF rs
def fX:List AV->Nat
 | []=>0
 |x::xs=>xL x+fX xs
end
theorem wV (xs ys:List AV):fX (xs++ys)=fX xs+fX ys:=by
 induction xs with
 |nil=>simp[fX]
 |cons x xs ih=>simp[fX,ih];omega
def mZ {α β:Type} (R:α->β->Prop):List α->List β->Prop
 | [],[]=>True
 |a::l,b::m=>R a b/\mZ R l m
 |_,_=>False
def dX (P:Program):Nat->TypeId->List AV->Prop
 |0,_,_=>False
 |n+1,t,xs=>
  match P.underlying t with
  |some .bool=>∃b,xs= [.bool b]
  |some (.int k)=>∃i,xs= [.int k i]/\(Lit.int k i).wf=true
  |some .string=>∃s:ByteArray,xs= [.str s]/\s.size<=maxLen
  |some (.slice e)=>∃rows,xs= [.slx e (P.cellsOf e) rows]/\∀r∈rows,dX P n e r
  |some (.struct fs)=>∃xss:List (List AV),xs=xss.flatten/\mZ (fun f ys=>dX P n f.type ys) fs.toList xss
  |some (.array m e)=>∃xss:List (List AV),xs=xss.flatten/\xss.length=m/\∀ys∈xss,dX P n e ys
  |_=>False
def mn (P:Program) (S:TypeId->Bool) (total:Nat):Nat->List Field->Bool
 |off,[]=>off==total
 |off,f::fs=>f.offset==off&&S f.type&&mn P S total (off+P.cellsOf f.type) fs
def vw (P:Program) (S:TypeId->Bool) (t:TypeId):Bool:=
 match P.underlying t with
 |some .bool|some (.int _)|some .string=>true
 |some (.struct fs)=>mn P S (P.cellsOf t) 0 fs.toList
 |some (.array n e)=>P.cellsOf t==n*P.cellsOf e&&S e
 |some (.slice e)=>S e&&decide (0<P.cellsOf e)
 |_=>false
def CR (W:World) (cs:List Value) (xs:List AV):Prop:=VAs (kA W).get .no (cs.map (img W.heap.size)) xs/\∀v∈cs,isU (img W.heap.size v)=false
section
variable {H:Type} {enc:TypeId×Value->H} {P:Program} {S:TypeId->Bool} {w:World} {base:Nat} {spare:Nat->Bool} {held:Bool}
theorem VAs.app {F:Hf} {g:Gb}:∀{a b:List SV} {x y:List AV},VAs F g a x->VAs F g b y->VAs F g (a++b) (x++y)
 |_,_,_,_,.nil,k=>k
 |_,_,_,_,.cons h t,k=>.cons h (t.app k)
theorem CR.nil:CR w [] []:=⟨.nil,fun v hv=>by cases hv⟩
theorem CR.append {a b:List Value} {x y:List AV} (h:CR w a x) (k:CR w b y):CR w (a++b) (x++y):=⟨by rw[List.map_append];exact h.1.app k.1,fun v hv=>(List.mem_append.1 hv).elim (h.2 v) (k.2 v)⟩
theorem CR.one {v:Value} {x:AV} (h:VA (kA w).get .no (img w.heap.size v) x) (hu:isU (img w.heap.size v)=false):CR w [v] [x]:=⟨.cons h .nil,fun u hu'=>by rw[List.mem_singleton.1 hu'];exact hu⟩
theorem CR.length {a:List Value} {x:List AV} (h:CR w a x):a.length=x.length:=by have:=h.1.length;simpa using this
theorem oq {α β:Type} {f:α->Option β}:∀{l:List α} {r:List β},l.mapM f=some r->mZ (fun a b=>f a=some b) l r
 | [],r,h=>by simp at h;subst h;trivial
 |a::l,r,h=>by
  rw[List.mapM_cons] at h;cases ha:f a with
  |none=>simp[ha] at h
  |some b=>
   cases hl:l.mapM f with
   |none=>simp[ha,hl] at h
   |some m=>
    simp[ha,hl] at h;subst h;exact ⟨ha,oq hl⟩
theorem zk {α β:Type} {R:α->β->Prop}:∀{l:List α} {m:List β},mZ R l m->l.length=m.length
 | [],[],_=>rfl
 |_::_,_::_,h=>by simp[zk h.2]
 | [],_::_,h=>h.elim
 |_::_,[],h=>h.elim
theorem Ah {α β:Type} {R:α->β->Prop}:∀{l:List α} {m:List β},mZ R l m->∀{i:Nat} {b:β},m[i]? =some b->∃a,l[i]? =some a/\R a b
 | [],[],_,_,_,h=>by simp at h
 |a::l,b::m,h,i,x,hx=>by
  cases i with
  |zero=>simp at hx;subst hx;exact ⟨a,rfl,h.1⟩
  |succ i=>simp at hx;obtain ⟨y,h1,h2⟩:=Ah h.2 hx;exact ⟨y,by simpa using h1,h2⟩
 | [],_::_,h,_,_,_=>h.elim
 |_::_,[],h,_,_,_=>h.elim
theorem aaE {α β:Type} {R:α->β->Prop} {l:List α} {m:List β} (h:mZ R l m) {b:β} (hb:b∈m):∃a,R a b:=by
 obtain ⟨i,hi⟩:=List.mem_iff_getElem?.1 hb;obtain ⟨a,_,ha⟩:=Ah h hi;exact ⟨a,ha⟩
theorem vn (n:Nat)
  (ih:∀t cs x,S t=true->DataW.trod enc P w base spare held n t cs=some x->∃xs,CR w cs xs/\dX P n t xs/\fX xs<=Rows.uptoBulk x.1) (total:Nat):
  ∀(fs:List Field) (off:Nat) (cs:List Value) (ys:List (DataW H×List MemPlace)),mn P S total off fs=true->cs.length=total->
   mZ (fun f y=>DataW.trod enc P w base spare held n f.type ((cs.drop f.offset).take (P.cellsOf f.type))=some y) fs ys->off<=total->
   ∃xss:List (List AV),CR w (cs.drop off) xss.flatten/\mZ (fun f zs=>dX P n f.type zs) fs xss/\fX xss.flatten<=Rows.uptoBulkAll (ys.map (·.1))
 | [],off,cs,ys,ht,hl,h2,_=>by
  simp[mn] at ht;refine ⟨[],?_,trivial,by simp[fX]⟩
  rw[List.drop_of_length_le (by omega)]
  exact .nil
 |f::fs,off,cs,[],_,_,h2,_=>h2.elim
 |f::fs,off,cs,y::ys,ht,hl,h2,ho=>by
  simp only[mn,Bool.and_eq_true,beq_iff_eq] at ht;obtain ⟨⟨ht0,htt⟩,ht1⟩:=ht;obtain ⟨h0,h1⟩:=h2;obtain ⟨xs,c1,c2,c3⟩:=ih _ _ _ htt h0;have hle:∀(fs:List Field) (o:Nat),mn P S total o fs=true->o<=total:=by
   intro fs;induction fs with
   |nil=>intro o h;simp[mn] at h;omega
   |cons g gs ihg=>intro o h;simp only[mn,Bool.and_eq_true] at h;have:=ihg _ h.2;omega
  have hle':=hle fs _ ht1;obtain ⟨xss,d1,d2,d3⟩:=vn n ih total fs (off+P.cellsOf f.type) cs ys ht1 hl h1 hle';refine ⟨xs::xss,?_,⟨c2,d2⟩,?_⟩
  ·rw[ht0] at c1;have:cs.drop off=(cs.drop off).take (P.cellsOf f.type)++cs.drop (off+P.cellsOf f.type):=by
    rw[<-List.drop_drop];exact (List.take_append_drop _ _).symm
   rw[this];exact c1.append d1
  ·simp only[List.flatten_cons,List.map_cons,Rows.uptoBulkAll,wV];omega
theorem wX (n:Nat) (e:TypeId) (he:S e=true)
  (ih:∀t cs x,S t=true->DataW.trod enc P w base spare held n t cs=some x->∃xs,CR w cs xs/\dX P n t xs/\fX xs<=Rows.uptoBulk x.1) (cs:List Value):
  ∀(m k:Nat) (ys:List (DataW H×List MemPlace)),cs.length=(k+m)*P.cellsOf e->
   mZ (fun i y=>DataW.trod enc P w base spare held n e ((cs.drop (i*P.cellsOf e)).take (P.cellsOf e))=some y) (List.range' k m) ys->
   ∃xss:List (List AV),CR w (cs.drop (k*P.cellsOf e)) xss.flatten/\xss.length=m/\(∀zs∈xss,dX P n e zs)/\fX xss.flatten<=Rows.uptoBulkAll (ys.map (·.1))
 |0,k,ys,hl,h2=>by
  refine ⟨[],?_,rfl,by simp,by simp[fX]⟩
  rw[List.drop_of_length_le (by simp at hl;omega)]
  exact .nil
 |m+1,k,[],_,h2=>by simp[List.range'_succ,mZ] at h2
 |m+1,k,y::ys,hl,h2=>by
  rw[List.range'_succ] at h2;obtain ⟨h0,h1⟩:=h2;obtain ⟨xs,c1,c2,c3⟩:=ih _ _ _ he h0;obtain ⟨xss,d1,d2,d3,d4⟩:=wX n e he ih cs m (k+1) ys (by rw[hl];congr 1;omega) h1
  refine ⟨xs::xss,?_,by simp[d2],?_,?_⟩
  ·have:cs.drop (k*P.cellsOf e)=(cs.drop (k*P.cellsOf e)).take (P.cellsOf e)++cs.drop ((k+1)*P.cellsOf e):=by
    rw[Nat.add_mul,Nat.one_mul,<-List.drop_drop];exact (List.take_append_drop _ _).symm
   rw[this];exact c1.append d1
  ·intro zs hz;rcases List.mem_cons.1 hz with rfl|hz
   ·exact c2
   ·exact d3 zs hz
  ·simp only[List.flatten_cons,List.map_cons,Rows.uptoBulkAll,wV];omega
theorem afo (a:Addr) (k j:Nat) (h:a.spot=none\/0<k):(a.add k).add j=⟨a.block,a.off+k+j,none⟩:=by
 obtain ⟨b,o,s⟩:=a;by_cases hk:k=0
 ·subst hk;simp at h;subst h;by_cases hj:j=0<;>simp[Addr.add,hj]
 ·by_cases hj:j=0<;>simp[Addr.add,hk,hj]
theorem vF (n:Nat) (e:TypeId) (he:S e=true) (a:Addr)
  (ih:∀t cs x,S t=true->DataW.trod enc P w base spare held n t cs=some x->∃xs,CR w cs xs/\dX P n t xs/\fX xs<=Rows.uptoBulk x.1) (hs:0<P.cellsOf e):
  ∀(m k:Nat) (ys:List (DataW H×List MemPlace)),
   mZ (fun i y=>((w.cells? base (a.add (i*P.cellsOf e)) (P.cellsOf e)).bind (DataW.trod enc P w base spare held n e))=some y) (List.range' k m) ys->
   ∃(rows:List (List AV)) (vs:List Value),CR w vs rows.flatten/\vs.length=m*P.cellsOf e/\(∀j v,vs[j]? =some v->w.cell? ⟨a.block,a.off+k*P.cellsOf e+j,none⟩=some v)/\rows.length=m/\(∀zs∈rows,dX P n e zs/\zs.length=P.cellsOf e)/\nF rows<=Rows.uptoBulkAll (ys.map (·.1))/\(k=0->0<m->a.spot=none)
 |0,k,ys,h2=>⟨[],[],.nil,by simp,fun j v hv=>(by simp at hv),rfl,by simp,by simp[nF],by simp⟩
 |m+1,k,[],h2=>by simp[List.range'_succ,mZ] at h2
 |m+1,k,y::ys,h2=>by
  rw[List.range'_succ] at h2;obtain ⟨h0,h1⟩:=h2;obtain ⟨rows,vs,d1,dl,dc,d2,d3,d4,d5⟩:=vF n e he a ih hs m (k+1) ys h1;cases hc:w.cells? base (a.add (k*P.cellsOf e)) (P.cellsOf e) with
  |none=>simp[hc] at h0
  |some cs=>
   simp only[hc,Option.bind_some] at h0;obtain ⟨xs,c1,c2,c3⟩:=ih _ _ _ he h0;unfold World.cells? at hc;split at hc
   ·have oS:=oq hc;have hlen:cs.length=P.cellsOf e:=by have:=zk oS;simpa using this.symm
    have mP:∀j v,cs[j]? =some v->w.cell? ((a.add (k*P.cellsOf e)).add j)=some v:=by
     intro j v hj;obtain ⟨i,hi,hv⟩:=Ah oS hj;have hi':i=j:=by
      have:=(List.getElem?_eq_some_iff.1 hi);obtain ⟨q1,q2⟩:=this;simpa using q2.symm
     rw[<-hi'];exact hv
    have adq:a.spot=none\/0<k*P.cellsOf e:=by
     by_cases hk:0<k*P.cellsOf e
     ·exact .inr hk
     ·have hk0:k*P.cellsOf e=0:=by omega
      have h00:=mP 0 (cs[0]'(by omega)) (by simp)
      rw[hk0] at h00;simp only[Addr.add,if_true] at h00;unfold World.cell? at h00;split at h00
      ·split at h00
       ·simp at h00
       ·rename_i q;left;simpa using q
      ·simp at h00
    refine ⟨xs::rows,cs++vs,?_,?_,fun j v hj=> ?_,by simp[d2],?_,?_,?_⟩
    ·rw[List.flatten_cons];exact c1.append d1
    ·rw[List.length_append,hlen,dl,Nat.add_mul];omega
    ·by_cases hjl:j<cs.length
     ·rw[List.getElem?_append_left hjl] at hj;have h:=mP j v hj;rw[afo a _ j adq] at h;exact h
     ·rw[List.getElem?_append_right (by omega)] at hj
      have h:=dc _ v hj;rw[hlen] at h;rw[hlen] at hjl;rw[Nat.add_mul,Nat.one_mul] at h;rw[show a.off+k*P.cellsOf e+j=a.off+(k*P.cellsOf e+P.cellsOf e)+(j-P.cellsOf e) by omega]
      exact h
    ·intro zs hz;rcases List.mem_cons.1 hz with rfl|hz
     ·exact ⟨c2,by rw[<-c1.length,hlen]⟩
     ·exact d3 zs hz
    ·simp only[nF,List.map_cons,Rows.uptoBulkAll];omega
    ·intro hk0 _;rcases adq with h|h
     ·exact h
     ·subst hk0;simp at h
   ·simp at hc
theorem YF {b o n c s:Nat} {e:TypeId} {vs:List Value} {rows:List (List AV)} (h:CR w vs rows.flatten) (hl:vs.length=n*s) (hc:∀j v,vs[j]? =some v->w.cell? ⟨b,o+j,none⟩=some v) (hn:rows.length=n) (hn0:0<n) (hs:0<s) (hu:∀r∈rows,r.length=s) (eB:n<=c):
  VA (kA w).get .no (img w.heap.size (.slice (some ⟨b,o,none⟩) n c)) (.slx e s rows)/\isU (img w.heap.size (.slice (some ⟨b,o,none⟩) n c))=false:=by
 have sJ:0<n*s:=Nat.mul_pos hn0 hs;have hb:∃cur et fz,w.heap[b]? =some (.cells cur et fz):=by
  have h0:=hc 0 (vs[0]'(by omega)) (by simp)
  unfold World.cell? at h0;split at h0
  ·rename_i cur et fz q;exact ⟨cur,et,fz,q⟩
  ·simp at h0
 obtain ⟨cur,et,fz,hb⟩:=hb;have hlt:b<w.heap.size:=(Array.getElem?_eq_some_iff.1 hb).1;have fS:∀j v,vs[j]? =some v->cur[o+j]? =some v:=fun j v hj=>by
  have:=hc j v hj;unfold World.cell? at this;rw[hb] at this;simpa using this
 have hle:o+n*s<=cur.size:=by
  have h0:=fS (n*s-1) (vs[n*s-1]'(by omega)) (by simp)
  have:=(Array.getElem?_eq_some_iff.1 h0).1;omega
 have heq:(cur.toList.drop o).take (n*s)=vs:=by
  apply List.ext_getElem?;intro j;rw[List.getElem?_take];split
  ·rename_i hj;rw[List.getElem?_drop];have:=fS j (vs[j]'(by omega)) (by simp)
   rw[Array.getElem?_toList,this];simp
  ·rename_i hj;rw[List.getElem?_eq_none (by omega)]
 have himg:img w.heap.size (.slice (some ⟨b,o,none⟩) n c)= .sl b o n (.k c):=by
  show (if n=0 then _ else if b<w.heap.size/\n<=c then SV.sl b o n (.k c) else .undef)=_
  rw[if_neg (by omega),if_pos ⟨hlt,eB⟩]
 have hwin:((cur.toList.map (img w.heap.size)).drop o).take (n*s)=vs.map (img w.heap.size):=by
  rw[<-List.map_drop,<-List.map_take,heq]
 have hF:cF ((kA w).get b) o (n*s)=some (0,cur.toList.map (img w.heap.size)):=by
  rw[ui,hb];show sel (lx (((cur.toList.map (img w.heap.size)).drop o).take (n*s))) (some (0,cur.toList.map (img w.heap.size))) none=_;rw[hwin,aA,if_pos (wO fun j x hx=> ?_)]
  rw[List.getElem?_map] at hx;cases hv:vs[j]? with
  |none=>rw[hv] at hx;cases hx
  |some v=>rw[hv] at hx;cases hx;exact h.2 v (List.mem_of_getElem? hv)
 rw[himg];exact ⟨.slx hF eB hn.symm hu (by simpa using hle) (by rw[hwin];exact h.1),rfl⟩
theorem wc {nb:Nat} {a:Option Addr} {c:Nat} {F:Hf} {e:TypeId} {s:Nat}:VA F .no (img nb (.slice a 0 c)) (.slx e s [])/\isU (img nb (.slice a 0 c))=false:=by
 have h:img nb (.slice a 0 c)=if a=none/\c=0 then SV.aT else .sle:=by simp[img]
 rw[h];split
 ·exact ⟨.mD _ _,rfl⟩
 ·exact ⟨.sy _ _,rfl⟩
theorem Aw (hP:∀t,S t=true->vw P S t=true):∀(n:Nat) (t:TypeId) (cs:List Value) (x:DataW H×List MemPlace),S t=true->DataW.trod enc P w base spare held n t cs=some x->
  ∃xs,CR w cs xs/\dX P n t xs/\fX xs<=Rows.uptoBulk x.1
 |0,_,_,_,_,h=>by simp[DataW.trod] at h
 |n+1,t,cs,x,hlt,h=>by
  have ih:=Aw hP n;have jt:=hP t hlt;unfold DataW.trod at h;unfold vw at jt;split at h
  ·rename_i b hu;simp at h;subst h;exact ⟨[.bool b],.one (.bool b) rfl,by simp[dX,hu],by simp[fX,xL,Rows.uptoBulk]⟩
  ·rename_i k k' i hu;split at h
   ·rename_i hc;obtain ⟨rfl,hw⟩:=hc;simp at h;subst h;exact ⟨[.int k' i],.one (.int _ _) rfl,by simp[dX,hu,hw],by simp[fX,xL,Rows.uptoBulk]⟩
   ·simp at h
  ·rename_i k k' i hu;rw[hu] at jt;cases jt
  ·rename_i s hu;split at h
   ·rename_i hc;simp at h;subst h;exact ⟨[.str s],.one (.str _) rfl,by simp[dX,hu,hc],by simp[fX,xL,Rows.uptoBulk]⟩
   ·simp at h
  ·rename_i hu;rw[hu] at jt;cases jt
  ·rename_i e a hu;rw[hu] at jt;cases jt
  ·rename_i e hu;simp at h;subst h;exact ⟨[.slx e (P.cellsOf e) []],.one (wc (a:=none) (c:=0)).1 (wc (F:=fun _=>none) (e:=0) (s:=0)).2,by simp[dX,hu],by simp[fX,xL,nF,Rows.uptoBulk]⟩
  ·rename_i e a len cap hu;simp only at h;split at h
   ·rename_i hc;cases hr:(List.range len).mapM fun i=>(w.cells? base (a.add (i*P.cellsOf e)) (P.cellsOf e)).bind (DataW.trod enc P w base spare held n e) with
    |none=>simp[hr] at h
    |some ys=>
     simp only[hr,Option.bind_some,Option.map_eq_some_iff] at h;obtain ⟨rest,_,rfl⟩:=h;simp only[hu,Bool.and_eq_true,decide_eq_true_eq] at jt;obtain ⟨he,hs⟩:=jt;have h2:=oq hr;rw[List.range_eq_range'] at h2;obtain ⟨rows,vs,d1,dl,dc,d2,d3,d4,d5⟩:=vF n e he a ih hs len 0 ys h2;have key:VA (kA w).get .no (img w.heap.size (.slice (some a) len cap)) (.slx e (P.cellsOf e) rows)/\isU (img w.heap.size (.slice (some a) len cap))=false:=by
      by_cases hl0:len=0
      ·subst hl0;rw[List.eq_nil_of_length_eq_zero d2];exact wc
      ·have hsp:=d5 rfl (by omega)
       obtain ⟨ab,ao,asp⟩:=a;simp at hsp;subst hsp;exact YF d1 dl (fun j v hj=>by have:=dc j v hj;simpa using this) d2 (by omega) hs (fun r hr=>(d3 r hr).2) hc.2.1
     refine ⟨[.slx e (P.cellsOf e) rows],.one key.1 key.2,?_,?_⟩
     ·simp only[dX,hu];exact ⟨rows,rfl,fun r hr=>(d3 r hr).1⟩
     ·simp only[fX,xL,Rows.uptoBulk];omega
   ·simp at h
  ·rename_i fs hu;split at h
   ·rename_i hl;simp only[Option.map_eq_some_iff] at h;obtain ⟨ys,hm,rfl⟩:=h;simp only[hu] at jt;obtain ⟨xss,d1,d2,d3⟩:=vn n ih _ fs.toList 0 _ ys jt hl (oq hm) (Nat.zero_le _);exact ⟨xss.flatten,by simpa using d1,by simp only[dX,hu];exact ⟨xss,rfl,d2⟩,by simp only[Rows.uptoBulk];omega⟩
   ·simp at h
  ·rename_i m e hu;split at h
   ·rename_i hl;simp only[Option.map_eq_some_iff] at h;obtain ⟨ys,hm,rfl⟩:=h;simp only[hu,beq_iff_eq,Bool.and_eq_true] at jt;have h2:=oq hm;rw[List.range_eq_range'] at h2;obtain ⟨xss,d1,d2,d3,d4⟩:=wX n e jt.2 ih _ m 0 ys (by rw[hl,jt.1];simp) h2
    exact ⟨xss.flatten,by simpa using d1,by simp only[dX,hu];exact ⟨xss,rfl,d2,d3⟩,by simp only[Rows.uptoBulk];omega⟩
   ·simp at h
  all_goals first
   |(rename_i hu;rw[hu] at jt;cases jt;done)
   |(cases h;done)
mutual
def BJ:AV->Prop
 | .int k n=>(Lit.int k n).wf=true
 | .str s=>s.size<=maxLen
 | .slx _ _ rows=>qT rows
 |_=>True
def qT:List (List AV)->Prop
 | []=>True
 |r::rs=>mQ r/\qT rs
def mQ:List AV->Prop
 | []=>True
 |x::xs=>BJ x/\mQ xs
end
theorem Ln {xs ys:List AV} (h:mQ xs) (k:mQ ys):mQ (xs++ys):=by
 induction xs with
 |nil=>exact k
 |cons x xs ih=>exact ⟨h.1,ih h.2⟩
theorem NO {rows:List (List AV)} (h:∀r∈rows,mQ r):qT rows:=by
 induction rows with
 |nil=>trivial
 |cons r rs ih=>exact ⟨h r (by simp),ih fun x hx=>h x (by simp[hx])⟩
theorem vp {rows:List (List AV)} (h:∀r∈rows,mQ r):mQ rows.flatten:=by
 induction rows with
 |nil=>trivial
 |cons r rs ih=>exact Ln (h r (by simp)) (ih fun x hx=>h x (by simp[hx]))
theorem Ie:∀(n:Nat) (t:TypeId) (xs:List AV),dX P n t xs->mQ xs
 |0,_,_,h=>h.elim
 |n+1,t,xs,h=>by
  have ih:=Ie n;unfold dX at h;split at h
  ·obtain ⟨b,rfl⟩:=h;exact ⟨trivial,trivial⟩
  ·obtain ⟨b,rfl,hw⟩:=h;exact ⟨hw,trivial⟩
  ·obtain ⟨b,rfl,hw⟩:=h;exact ⟨hw,trivial⟩
  ·obtain ⟨rows,rfl,hr⟩:=h;exact ⟨NO fun r h=>ih _ _ (hr r h),trivial⟩
  ·obtain ⟨xss,rfl,h2⟩:=h;exact vp fun r hr=>by obtain ⟨f,hf⟩:=aaE h2 hr;exact ih _ _ hf
  ·obtain ⟨xss,rfl,_,h2⟩:=h;exact vp fun r hr=>ih _ _ (h2 r hr)
  ·exact h.elim
theorem aew {α:Type} {en:α->List AV} {rows:List (List AV)} (h:∀r∈rows,∃x,r=en x):∃ys:List α,rows=ys.map en:=by
 induction rows with
 |nil=>exact ⟨[],rfl⟩
 |cons r rs ih=>
  obtain ⟨y,rfl⟩:=h r (by simp)
  obtain ⟨ys,rfl⟩:=ih fun x hx=>h x (by simp[hx])
  exact ⟨y::ys,rfl⟩
def AR (W:World) (P:Program) (v:Value) (x:AV):Prop:=VA (kA W).get .no (KS W.heap.size v) x/\VR (gW P W) v (KS W.heap.size v)
theorem afn (hP:∀t,S t=true->vw P S t=true) {t:TypeId} (ht:S t=true) {v:Value} {d:DataW H} {ps:List MemPlace} (h:DataW.Trod enc P w base spare held t v d ps) (hv:v.cells.toList= [v]):
  ∃x n,AR w P v x/\dX P n t [x]/\fX [x]<=Rows.uptoBulk d:=by
 obtain ⟨n,hn⟩:=h;obtain ⟨xs,h1,h2,h3⟩:=Aw hP n t _ _ ht hn;rw[hv] at h1;obtain ⟨h1,hu⟩:=h1;cases h1 with
 |cons hd ht=>
  cases ht;have e:KS w.heap.size v=img w.heap.size v:=by
   cases v<;>first|rfl|(have:=hu _ (List.mem_singleton.2 rfl);cases this;done)
  exact ⟨_,n,⟨by rw[e];exact hd,by rw[e];exact Xw v⟩,h2,h3⟩
end
end
end Go.Sim
namespace Go.Sim
open Go.RowKit Go.ChangeShapes Go.Proofs.YtmealahmjddpcaaGreatDoor
section
section
variable {H:Type} {enc:TypeId×Value->H} {P:Program}
theorem vm (hl:laidOutB P=true) {W W':World} {sp:Nat->Bool}:∀{ts:List TypeId} {vs:List Value} {ds:List (DataW H)} {ps:List MemPlace},
  (∀t∈ts,P.readableRec t=true/\t<P.types.size)->DataW.TrodAll enc P W 0 (fun _=>true) true ts vs ds ps->Below W.heap.size W W'->(∀p∈ps,p.block<W.heap.size)->(∀p∈ps,sp p.block=true)->
  DataW.TrodAll enc P W' 0 sp true ts vs ds ps
 | [],_,_,_,_,h,_,_,_=>by
  obtain ⟨rfl,rfl,rfl⟩:=trodAll_nil h;exact rfl
 |t::ts,_,_,_,ht,h,hb,hlt,hsp=>by
  obtain ⟨v,vs,d,ds,p,q,rfl,rfl,rfl,h1,h2⟩:=trodAll_cons h;refine ⟨p,q,?_,vm hl (fun t h=>ht t (by simp[h])) h2 hb (fun x hx=>hlt x (by simp[hx])) (fun x hx=>hsp x (by simp[hx])),rfl⟩
  exact WideElems.Trod_stays hl (ht t (by simp)).1 (ht t (by simp)).2 h1 (fun x hx=>hb.same (hlt x (by simp[hx]))) (fun x hx=>hsp x (by simp[hx]))
theorem Ni {W:World}:∀{vs:List Value} {xs:List AV},mZ (AR W P) vs xs->VAs (kA W).get .no (vs.map (KS W.heap.size)) xs/\VRs (gW P W) vs (vs.map (KS W.heap.size))
 | [],[],_=>⟨.nil,.nil⟩
 |v::vs,x::xs,h=>⟨.cons h.1.1 (Ni h.2).1,.cons h.1.2 (Ni h.2).2⟩
 | [],_::_,h=>h.elim
 |_::_,[],h=>h.elim
theorem law_contract {E:Env} (hS:kM E) (hE:∀W,bC E (gW E.P W)) {f:FuncId} (hgo:uE E (.fn (.func f) [] [])=true) {fn:Func} {s:ChangeSpec} {tb:TypeId} (hl:laidOutB E.P=true) (hts:(fn.params.toList.all fun t=>E.P.readableRec t&&decide (t<E.P.types.size))=true)
  (bf:fn.resultTypes= #[tb]) (htb:E.P.underlying tb=some .bool) (hv:s.vars= []) (hfn:∀ds:List (DataW H),ds.length=fn.params.size->s.fn H ds={results:= [.lit (.bool true)],args:=ds})
  {W:World} {args:Array Value} {ds gs:List (DataW H)} {before:List MemPlace}
  (hW:DataW.Whole enc E.P fn.params.toList s.vars false W args.toList ds gs before)
  (uD:∃xs:List AV,bl E f [] xs (.bool true) []/\mZ (AR W E.P) args.toList xs):
  Calls E.P f args W fun e W'=>∃v,e= .returned v/\s.post enc E.P fn false true false false W args v W':=by
 obtain ⟨xs,hs,h2⟩:=uD;obtain ⟨k1,k2⟩:=Ni h2;have hc:=RZ hS (hE W) hs hgo k1 k2;rw[Array.toArray_toList] at hc;refine hc.mono ?_;rintro e W' ⟨rfl,hb⟩;refine ⟨_,rfl,?_⟩;have hW':=hW;obtain ⟨p,q,hA,hV,rfl,hfz,hnd⟩:=hW;rw[hv] at hV;obtain ⟨rfl,rfl⟩:=trodVars_none hV;have hdl:ds.length=fn.params.size:=by
  have:∀{ts:List TypeId} {vs:List Value} {ds:List (DataW H)} {ps:List MemPlace},DataW.TrodAll enc E.P W 0 (fun _=>true) true ts vs ds ps->ds.length=ts.length:=by
   intro ts;induction ts with
   |nil=>intro vs ds ps h;obtain ⟨rfl,rfl,rfl⟩:=trodAll_nil h;rfl
   |cons t ts ih=>intro vs ds ps h;obtain ⟨v,vs,d,ds,p,q,rfl,rfl,rfl,h1,h2⟩:=trodAll_cons h;simp[ih h2]
  simpa using this hA
 have hf:=hfn (ds++ []) (by simpa using hdl)
 have hlt:∀x∈p,x.block<W.heap.size:=fun x hx=>hW'.lt x (by simp[hx])
 have htt:∀t∈fn.params.toList,E.P.readableRec t=true/\t<E.P.types.size:=fun t ht=>by
  have:=List.all_eq_true.1 hts t ht;simpa using this
 have hold:∀x∈p,(fun b=>decide (b<W.heap.size)) x.block=true:=fun x hx=>by simpa using hlt x hx
 refine ⟨ds,[],p++ [],[],p,[],hW',?_,?_,?_,hb.frame _,fun h=>by cases h⟩
 ·rw[hf,bf];exact trodAll_cons_mk (shut_bool htb _) trodAll_mk0
 ·rw[hf];simp only[List.append_nil];exact vm hl htt hA hb hlt hold
 ·rw[hf,hv];exact rfl
theorem Nw {W:World} {base:Nat} {t e:TypeId} {v:Value} (hu:P.underlying t=some (.slice e)) (h:Value.okWide P W .any base t v):v.cells.toList= [v]:=by
 simp only[Value.okWide,hu,Cell.okWide,Cell.ok] at h;split at h<;>first|rfl|(simp_all;done)|(exact h.elim)
end
end
end Go.Sim
namespace Go.Proofs.YtmealahmjddpcaaGreatDoor
open Go.Sim
def tyT:Tr TI:=aaP Tryz.prog 338
def fnT:Tr Func:=adx Tryz.prog
def env (aiD:List Nat) (afE:List (Nat×Nat)) (DX:List Nat) (stop:List Nat) (lt eq:List (SI×SI×Bool)) (done:List (Nat×SV)):Env:=⟨Tryz.prog,tyT,fnT,lt,eq,done,aiD,afE,DX,stop⟩
theorem Ga:xY Tryz.prog tyT fnT:=afF 338 158 (fe:=Tryz.f158) (by kernel_rfl) (by kernel_rfl) Tryz.func158 (by kernel_rfl) (by kernel_rfl) (by kernel_rfl)
def E0:Env:=env [] [] [] [] [] [] [(15,.bool true)]
def aaf (x:Int):List AV:= [.int .i64 x]
def bq (xs:List Int):List (List AV):=xs.map aaf
theorem U7 (xs:List Int):bq xs=xs.map aaf:=rfl
theorem R3:RowsK aaf bq:=⟨U7⟩
def enc9 (x:ByteArray):List AV:= [.str x]
def pa (xs:List ByteArray):List (List AV):=xs.map enc9
structure aH where
 aw:Int
 bM:Int
 bt:ByteArray
def jX (x:aH):List AV:= [.int .i64 x.aw,.int .i64 x.bM,.str x.bt]
def aL (xs:List aH):List (List AV):=xs.map jX
theorem P8 (xs:List aH):aL xs=xs.map jX:=rfl
theorem R64:RowsK jX aL:=⟨P8⟩
def RI (x:(List aH)):List AV:= [.slice 65 3 (aL x)]
def bu (xs:List (List aH)):List (List AV):=xs.map RI
theorem Qb (xs:List (List aH)):bu xs=xs.map RI:=rfl
theorem R42:RowsK RI bu:=⟨Qb⟩
def RH (x:(List (List aH))):List AV:= [.slice 43 1 (bu x)]
def dw (xs:List (List (List aH))):List (List AV):=xs.map RH
theorem P7 (xs:List (List (List aH))):dw xs=xs.map RH:=rfl
theorem R66:RowsK RH dw:=⟨P7⟩
def XL (x:(List (List aH))):List AV:= [.sln 43 1 (bu x)]
def td (xs:List (List (List aH))):List (List AV):=xs.map XL
theorem Ai:RowsK XL td:=⟨fun _=>rfl⟩
structure aQ where
 dI:Int
 jf:Int
 aq:Int
 au:(List aH)
def adD (x:aQ):List AV:= [.int .i64 x.dI,.int .i64 x.jf,.int .i64 x.aq,.slice 65 3 (aL x.au)]
structure rn where
 qQ:aQ
def agI (x:rn):List AV:= [.int .i64 x.qQ.dI,.int .i64 x.qQ.jf,.int .i64 x.qQ.aq,.slice 65 3 (aL x.qQ.au)]
inductive eZ where
 |nil
 |c35 (x:Int)
 |uS (x:rn)
def qX:eZ->AV
 | .nil=>.cN
 | .c35 x=>.ifc 35 (.int .i64 x)
 | .uS x=>.ifc 145 (.agg (agI x))
def mL {α:Type} (x:eZ) (a:α) (f35:Int->α) (f145:rn->α):α:=
 match x with
 | .nil=>a
 | .c35 x=>f35 x
 | .uS x=>f145 x
theorem ice {α:Type} {x:eZ} {a:Option α} {f35:Int->Option α} {f145:rn->Option α} {r:α} {G:Prop} (h:mL x a f35 f145=some r) (k:x= .nil->a=some r->G) (k35:∀y,x= .c35 y->f35 y=some r->G) (k145:∀y,x= .uS y->f145 y=some r->G):G:=by
 cases x with
 |nil=>exact k rfl h
 |c35 y=>exact k35 y rfl h
 |uS y=>exact k145 y rfl h
def LD (x:Int):List AV:= [.int .u8 x]
def nT (xs:List Int):List (List AV):=xs.map LD
theorem E5 (xs:List Int):nT xs=xs.map LD:=rfl
theorem R5:RowsK LD nT:=⟨E5⟩
structure az where
 fOp:Int
 aq:Int
 au:(List aH)
 ak:(List Int)
 aR:(List aH)
def gP (x:az):List AV:= [.int .i64 x.fOp,.int .i64 x.aq,.slice 65 3 (aL x.au),.slice 3 1 (bq x.ak),.slice 65 3 (aL x.aR)]
def dx (xs:List az):List (List AV):=xs.map gP
theorem Qa (xs:List az):dx xs=xs.map gP:=rfl
theorem R54:RowsK gP dx:=⟨Qa⟩
structure iS where
 cJ:ByteArray
 aw:Int
def GF (x:iS):List AV:= [.str x.cJ,.int .i64 x.aw]
def oj (xs:List iS):List (List AV):=xs.map GF
theorem P6 (xs:List iS):oj xs=xs.map GF:=rfl
theorem R76:RowsK GF oj:=⟨P6⟩
structure bU where
 ak:(List Int)
 aq:Int
def BQ (x:bU):List AV:= [.slice 3 1 (bq x.ak),.int .i64 x.aq]
def mE (xs:List bU):List (List AV):=xs.map BQ
theorem P5 (xs:List bU):mE xs=xs.map BQ:=rfl
theorem R79:RowsK BQ mE:=⟨P5⟩
structure aE where
 aw:Int
 bO:Int
 aV:aH
def lO (x:aE):List AV:= [.int .i64 x.aw,.int .i64 x.bO,.int .i64 x.aV.aw,.int .i64 x.aV.bM,.str x.aV.bt]
def tf (xs:List aE):List (List AV):=xs.map lO
theorem P4 (xs:List aE):tf xs=xs.map lO:=rfl
theorem R81:RowsK lO tf:=⟨P4⟩
structure an where
 fOp:Int
 hJ:Int
 bD:aE
 br:aE
 fArgs:(List an)
mutual
def LB:an->List AV
 |⟨fOp,hJ,bD,br,fArgs⟩=> [.int .i64 fOp,.int .i64 hJ,.int .i64 bD.aw,.int .i64 bD.bO,.int .i64 bD.aV.aw,.int .i64 bD.aV.bM,.str bD.aV.bt,.int .i64 br.aw,.int .i64 br.bO,.int .i64 br.aV.aw,.int .i64 br.aV.bM,.str br.aV.bt,.slice 84 13 (il fArgs)]
def il:List an->List (List AV)
 | []=> []
 |x::xs=>LB x::il xs
end
def gO (x:an):List AV:= [.int .i64 x.fOp,.int .i64 x.hJ,.int .i64 x.bD.aw,.int .i64 x.bD.bO,.int .i64 x.bD.aV.aw,.int .i64 x.bD.aV.bM,.str x.bD.aV.bt,.int .i64 x.br.aw,.int .i64 x.br.bO,.int .i64 x.br.aV.aw,.int .i64 x.br.aV.bM,.str x.br.aV.bt,.slice 84 13 (il x.fArgs)]
theorem XK (x:an):LB x=gO x:=by cases x;simp[LB,gO]
theorem P3 (xs:List an):il xs=xs.map gO:=by
 induction xs with
 |nil=>simp[il]
 |cons x xs ih=>simp[il,ih,XK]
theorem R83:RowsK gO il:=⟨P3⟩
structure ay where
 cJ:ByteArray
 ak:(List iS)
 au:Int
 cf:(List bU)
 dS:(List an)
def lP (x:ay):List AV:= [.str x.cJ,.slice 77 2 (oj x.ak),.int .i64 x.au,.slice 80 2 (mE x.cf),.slice 84 13 (il x.dS)]
def dC (xs:List ay):List (List AV):=xs.map lP
theorem P9 (xs:List ay):dC xs=xs.map lP:=rfl
theorem R62:RowsK lP dC:=⟨P9⟩
structure af where
 bQ:Int
 ag:(List ay)
def ba (x:af):List AV:= [.int .i64 x.bQ,.slice 63 5 (dC x.ag)]
structure aj where
 gz:(List Int)
 fat:Int
def bI (x:aj):List AV:= [.slx 5 1 (nT x.gz),.int .i64 x.fat]
structure ah where
 ag:(List (List (List aH)))
def eg (x:ah):List AV:= [.slice 66 1 (dw x.ag)]
structure aB where
 aq:Int
 cC:(List aH)
 ea:(List aH)
def dW (x:aB):List AV:= [.int .i64 x.aq,.slice 65 3 (aL x.cC),.slice 65 3 (aL x.ea)]
def gG (xs:List aB):List (List AV):=xs.map dW
theorem Nq (xs:List aB):gG xs=xs.map dW:=rfl
theorem sU:RowsK dW gG:=⟨Nq⟩
structure rq where
 f0:(List aH)
 f1:(List aH)
def XM (x:rq):List AV:= [.slice 65 3 (aL x.f0),.slice 65 3 (aL x.f1)]
structure cQ where
 fH:(List Int)
 gL:(List Int)
def tE (x:cQ):List AV:= [.slice 3 1 (bq x.fH),.slice 3 1 (bq x.gL)]
abbrev Wq0:=List Int
abbrev Wq1:=List ay
abbrev Wq2:=List aH
abbrev Wq3:=List az
abbrev Wq4:=List iS
abbrev Wq5:=List aB
abbrev Wq6:=List aE
abbrev Wq7:=List bU
abbrev Wq8:=List an
abbrev Wq9:=List (List aH)
abbrev aF:=List (List (List aH))
def Sq (_n:Nat) (a b:ByteArray):Option Int:=some (Lib.compareBytes a.data.toList b.data.toList)
def JS (r:Int):AV:=.int .i64 r
def aeB (_r:Int):List (Nat×Bx):= []
def C158:=Cx E0 158 JS aeB
def aem (a b:ByteArray):LS:=⟨[(0,.str a),(1,.str b)],[]⟩
theorem aiT (n:Nat):K2 C158 aem (Sq n):=fun a b r h=>by
 have e:=Option.some.inj h;subst e;show bl E0 158 [] [.str a,.str b] (JS (Lib.compareBytes a.data.toList b.data.toList)) [];rw[show JS (Lib.compareBytes a.data.toList b.data.toList)= .int .i64 (qZ a b) from congrArg (AV.int .i64) (FH a b)];exact bl.cmp (fn:=Tryz.f158) (by kernel_rfl) (by kernel_rfl) (by kernel_rfl)
def F15 (_n:Nat):Option Bool:=some true
def ait (r:Bool):AV:=.bool r
def agk (_r:Bool):List (Nat×Bx):= []
def C15:=Cx E0 15 ait agk
def afY:LS:=⟨[],[]⟩
theorem ev15 (n:Nat):K0 C15 afY (F15 n):=fun r h=>by
 have e:=Option.some.inj h;subst e;exact bl.done (v:=.bool true) (by kernel_rfl) fun F g=>.bool true
def res8 (r:aj):AV:=.loc 200000 0
def acn (r:aj):List (Nat×Bx):= [(200000,.flat 74 (bI r))]
def x8:=fx E0 Tryz.f8 [] [200000]
def A8:=Ax x8 res8 acn
def C8:=Cx E0 8 res8 acn
def aaU (gY:Wq0) (uh:Int):LS:=⟨[(0,.slx 5 1 (nT gY)),(1,.int .i64 uh)],[]⟩
def aaL (n:Nat) (gY:Wq0) (uh:Int):Option aj:=
 (cut gY none (some (if uh<(gY.length:Int) then uh else (gY.length:Int)))).bind fun x7=>
 (app [] x7).bind fun x9=>
 some (aj.mk x9 0)
theorem b8_0 (n:Nat):K2 (A8 []) aaU (aaL n):=fun gY uh r h=>
 be h fun x7 hx7 h=>
 be h fun x9 hx9 h=>
 rr h [(3,.eqv (R5.ax gY)),(2,R5.cut hx7),(0,.born [] [] 11 true 5 1),(0,R5.app (xs:= []) hx9 .dat),(3,.ren 13 200000),(0,R5.frz 11 x9),(0,.norm [] [(200000,.flat [.sx 0 0])])]
def F8 (n:Nat) (gY:Wq0) (uh:Int):Option aj:=aaL n gY uh
theorem ev8 (n:Nat):K2 C8 aaU (F8 n):=fun _ _ _ h=>ca (X:=x8) (b8_0 n h)
def acb (r:(Int×aj)):AV:=.int .i64 r.1
def WE (r:(Int×aj)):List (Nat×Bx):= [(0,.flat 74 (bI r.2))]
def x24:=fx E0 Tryz.f24 [0] [0]
def A24:=Ax x24 acb WE
def C24:=Cx E0 24 acb WE
def UO (c0:aj) (n1:Int):LS:=⟨[(0,.loc 0 0),(1,.int .i64 n1)],[(0,.flat 74 (bI c0))]⟩
def Tu (n:Nat) (c0:aj) (n1:Int):Option (Int×aj):=
 if !decide (c0.fat<(c0.gz.length:Int)) then
 some (0,c0)
 else
 if decide (n1<1) then
 some (0,c0)
 else
 (idx c0.gz (w64 ((w64 (c0.fat+1)) - 1))).bind fun x33=>
 (rem (w64 (x33)) n1).bind fun x38=>
 some ((Int.tmod (w64 (x33)) n1),(aj.mk c0.gz (w64 (c0.fat+1))))
theorem alo (n:Nat):K2 (A24 []) UO (Tu n):=fun c0 n1 r h=>
 ie h (fun c0_ h=>
 rr h [(9,.eqv (R5.ax c0.gz)),(0,eb c0_)]) (fun c0_ h=>
 ie h (fun c1 h=>
 rr h [(9,.eqv (R5.ax c0.gz)),(0,eb c0_),(2,eb c1)]) (fun c1 h=>
 be h fun x33 Eb h=>
 be h fun x38 hx38 h=>
 rr h [(9,.eqv (R5.ax c0.gz)),(0,eb c0_),(2,eb c1),(18,R5.idx Eb),(3,.nz (JU hx38).1)]))
def F24 (n:Nat) (c0:aj) (n1:Int):Option (Int×aj):=Tu n c0 n1
theorem dK (n:Nat):K2 C24 UO (F24 n):=fun _ _ _ h=>ca (X:=x24) (alo n h)
def abX (r:(Bool×aj)):AV:=.bool r.1
def Wz (r:(Bool×aj)):List (Nat×Bx):= [(0,.flat 74 (bI r.2))]
def x29:=fx E0 Tryz.f29 [0] [0]
def A29:=Ax x29 abX Wz
def C29:=Cx E0 29 abX Wz
def UJ (c0:aj) (n1:Int):LS:=⟨[(0,.loc 0 0),(1,.int .i64 n1)],[(0,.flat 74 (bI c0))]⟩
def To (n:Nat) (c0:aj) (n1:Int):Option (Bool×aj):=
 (F24 n c0 n1).bind fun x4=>
 some (x4.1==(w64 (n1 - 1)),x4.2)
theorem akX (n:Nat):K2 (A29 []) UJ (To n):=fun c0 n1 r h=>
 be h fun x4 hx4 h=>
 rr h [(3,.call (dK n hx4) [] [(0,0)] [])]
def F29 (n:Nat) (c0:aj) (n1:Int):Option (Bool×aj):=To n c0 n1
theorem fT (n:Nat):K2 C29 UJ (F29 n):=fun _ _ _ h=>ca (X:=x29) (akX n h)
def abW (r:iS):AV:=.agg (GF r)
def Wy (r:iS):List (Nat×Bx):= []
def x30:=fx E0 Tryz.f30 [] []
def A30:=Ax x30 abW Wy
def C30:=Cx E0 30 abW Wy
def UI (xy:ByteArray) (js:Int):LS:=⟨[(0,.str xy),(1,.int .i64 js)],[]⟩
def Tn (n:Nat) (xy:ByteArray) (js:Int):Option iS:=
 some (iS.mk xy js)
theorem akW (n:Nat):K2 (A30 []) UI (Tn n):=fun xy js r h=>
 rr h []
def F30 (n:Nat) (xy:ByteArray) (js:Int):Option iS:=Tn n xy js
theorem km (n:Nat):K2 C30 UI (F30 n):=fun _ _ _ h=>ca (X:=x30) (akW n h)
def Vs (r:(Int×aj)):AV:=.int .i64 r.1
def OV (r:(Int×aj)):List (Nat×Bx):= [(0,.flat 74 (bI r.2))]
def x106:=fx E0 Tryz.f106 [0] [0]
def A106:=Ax x106 Vs OV
def C106:=Cx E0 106 Vs OV
def Om (c0:aj):LS:=⟨[(0,.loc 0 0)],[(0,.flat 74 (bI c0))]⟩
def Na (n:Nat) (c0:aj):Option (Int×aj):=
 (F24 n c0 12).bind fun x3=>
 if x3.1==9 then
 some ((-1),x3.2)
 else
 if x3.1==10 then
 some (9223372036854775807,x3.2)
 else
 if x3.1==11 then
 some ((-9223372036854775808),x3.2)
 else
 (rem x3.1 4).bind fun x14=>
 some ((Int.tmod x3.1 4),x3.2)
theorem ahp (n:Nat):K1 (A106 []) Om (Na n):=fun c0 r h=>
 be h fun x3 hx3 h=>
 ie h (fun c0_ h=>
 rr h [(2,.call (dK n hx3) [] [(0,0)] []),(2,eb c0_)]) (fun c0_ h=>
 ie h (fun c1 h=>
 rr h [(2,.call (dK n hx3) [] [(0,0)] []),(2,eb c0_),(1,eb c1)]) (fun c1 h=>
 ie h (fun c2 h=>
 rr h [(2,.call (dK n hx3) [] [(0,0)] []),(2,eb c0_),(1,eb c1),(1,eb c2)]) (fun c2 h=>
 be h fun x14 fQ h=>
 rr h [(2,.call (dK n hx3) [] [(0,0)] []),(2,eb c0_),(1,eb c1),(1,eb c2),(2,.nz (JU fQ).1)])))
def SA (n:Nat) (c0:aj):Option (Int×aj):=Na n c0
theorem aiX (n:Nat):K1 C106 Om (SA n):=fun _ _ h=>ca (X:=x106) (ahp n h)
def Vr (r:(ByteArray×aj)):AV:=.str r.1
def OU (r:(ByteArray×aj)):List (Nat×Bx):= [(0,.flat 74 (bI r.2))]
def x107:=fx E0 Tryz.f107 [0] [0]
def nM:=Ax x107 Vr OU
def C107:=Cx E0 107 Vr OU
def Dk (ez:ByteArray) (i4:Int) (b0:aj):LS:=⟨[(3,.str ez),(4,.int .i64 i4)],[(0,.flat 74 (bI b0))]⟩
def Dj (ez:ByteArray) (b0:aj):LS:=⟨[(3,.str ez)],[(0,.flat 74 (bI b0))]⟩
def Di (ez:ByteArray) (i5:Int) (b0:aj):LS:=⟨[(3,.str ez),(5,.int .i64 i5)],[(0,.flat 74 (bI b0))]⟩
def Dh (ez:ByteArray) (b0:aj):LS:=⟨[(3,.str ez)],[(0,.flat 74 (bI b0))]⟩
def Ol (c0:aj):LS:=⟨[(0,.loc 0 0)],[(0,.flat 74 (bI c0))]⟩
def CM (k_1:ByteArray->aj->Option (ByteArray×aj)) (back:ByteArray->Int->aj->Option (ByteArray×aj)) (n:Nat) (ez:ByteArray) (i4:Int) (b0:aj):Option (ByteArray×aj):=
 if decide (i4<64) then
 (cat ez (ByteArray.mk #[255])).bind fun x4=>
 back (ez++(ByteArray.mk #[255])) (w64 (i4+1)) b0
 else
 k_1 ez b0
theorem aho {k_1} (aJ:K2 (nM [1,0,1,1,1,1,1,1,1,1,1,1,1,0,1,0,1,1]) Dj k_1) {back} (aD:K3 (nM [0,1,0,0,1,1,1,1,1,1,1,1,1,1,1,0,1,0,1,1]) Dk back) (n:Nat):K3 (nM [0,1,0,0,1,1,1,1,1,1,1,1,1,1,1,0,1,0,1,1]) Dk (CM k_1 back n):=fun ez i4 b0 r h=>
 ie h (fun c0_ h=>
 be h fun x4 hx4 h=>
 ra (aD h) [(1,eb c0_),(1,.cat (LO hx4).1)]) (fun c0_ h=>
 ra (aJ h) [(1,eb c0_)])
def tK (k_1:ByteArray->aj->Option (ByteArray×aj)):Nat->ByteArray->Int->aj->Option (ByteArray×aj)
 |0,_,_,_=>none
 |n+1,ez,i4,b0=>CM k_1 (tK k_1 n) n ez i4 b0
theorem Xg {k_1} (aJ:K2 (nM [1,0,1,1,1,1,1,1,1,1,1,1,1,0,1,0,1,1]) Dj k_1):∀n:Nat,K3 (nM [0,1,0,0,1,1,1,1,1,1,1,1,1,1,1,0,1,0,1,1]) Dk (tK k_1 n)
 |0=>fun _ _ _ _ h=>nz h
 |n+1=>fun _ _ _ _ h=>aho aJ (Xg aJ n) n h
def Yp (n:Nat) (ez:ByteArray) (b0:aj):Option (ByteArray×aj):=
 some (ez,b0)
theorem ahn (n:Nat):K2 (nM [1,0,1,1,1,1,1,1,1,1,1,1,1,0,1,0,1,1]) Dj (Yp n):=fun ez b0 r h=>
 rr h []
def CL (k_3:ByteArray->aj->Option (ByteArray×aj)) (back:ByteArray->Int->aj->Option (ByteArray×aj)) (n:Nat) (ez:ByteArray) (i5:Int) (b0:aj):Option (ByteArray×aj):=
 if decide (i5<64) then
 (cat ez (ByteArray.mk #[98])).bind fun x4=>
 back (ez++(ByteArray.mk #[98])) (w64 (i5+1)) b0
 else
 k_3 ez b0
theorem ahm {k_3} (bT:K2 (nM [1,1,1,1]) Dh k_3) {back} (aD:K3 (nM [0,1,0,1,1,1]) Di back) (n:Nat):K3 (nM [0,1,0,1,1,1]) Di (CL k_3 back n):=fun ez i5 b0 r h=>
 ie h (fun c0_ h=>
 be h fun x4 hx4 h=>
 ra (aD h) [(1,eb c0_),(1,.cat (LO hx4).1)]) (fun c0_ h=>
 ra (bT h) [(1,eb c0_)])
def tJ (k_3:ByteArray->aj->Option (ByteArray×aj)):Nat->ByteArray->Int->aj->Option (ByteArray×aj)
 |0,_,_,_=>none
 |n+1,ez,i5,b0=>CL k_3 (tJ k_3 n) n ez i5 b0
theorem Xf {k_3} (bT:K2 (nM [1,1,1,1]) Dh k_3):∀n:Nat,K3 (nM [0,1,0,1,1,1]) Di (tJ k_3 n)
 |0=>fun _ _ _ _ h=>nz h
 |n+1=>fun _ _ _ _ h=>ahm bT (Xf bT n) n h
def Yo (n:Nat) (ez:ByteArray) (b0:aj):Option (ByteArray×aj):=
 some (ez,b0)
theorem ahl (n:Nat):K2 (nM [1,1,1,1]) Dh (Yo n):=fun ez b0 r h=>
 rr h []
def M9 (n:Nat) (c0:aj):Option (ByteArray×aj):=
 (F24 n c0 10).bind fun x4=>
 if x4.1==0 then
 some ((ByteArray.mk #[97]),x4.2)
 else
 if x4.1==1 then
 some ((ByteArray.mk #[97]),x4.2)
 else
 if x4.1==2 then
 some ((ByteArray.mk #[97]),x4.2)
 else
 if x4.1==3 then
 some ((ByteArray.mk #[98]),x4.2)
 else
 if x4.1==4 then
 some ((ByteArray.mk #[98]),x4.2)
 else
 if x4.1==5 then
 some (ByteArray.empty,x4.2)
 else
 if x4.1==6 then
 some ((ByteArray.mk #[97,0]),x4.2)
 else
 if x4.1==7 then
 some ((ByteArray.mk #[255]),x4.2)
 else
 if x4.1==8 then
 tK (Yp n) n ByteArray.empty 0 x4.2
 else
 tJ (Yo n) n ByteArray.empty 0 x4.2
theorem ahk (n:Nat):K1 (nM []) Ol (M9 n):=fun c0 r h=>
 be h fun x4 hx4 h=>
 ie h (fun c0_ h=>
 rr h [(3,.call (dK n hx4) [] [(0,0)] []),(0,eb c0_)]) (fun c0_ h=>
 ie h (fun c1 h=>
 rr h [(3,.call (dK n hx4) [] [(0,0)] []),(0,eb c0_),(1,eb c1)]) (fun c1 h=>
 ie h (fun c2 h=>
 rr h [(3,.call (dK n hx4) [] [(0,0)] []),(0,eb c0_),(1,eb c1),(1,eb c2)]) (fun c2 h=>
 ie h (fun c3 h=>
 rr h [(3,.call (dK n hx4) [] [(0,0)] []),(0,eb c0_),(1,eb c1),(1,eb c2),(1,eb c3)]) (fun c3 h=>
 ie h (fun c4 h=>
 rr h [(3,.call (dK n hx4) [] [(0,0)] []),(0,eb c0_),(1,eb c1),(1,eb c2),(1,eb c3),(1,eb c4)]) (fun c4 h=>
 ie h (fun c5 h=>
 rr h [(3,.call (dK n hx4) [] [(0,0)] []),(0,eb c0_),(1,eb c1),(1,eb c2),(1,eb c3),(1,eb c4),(1,eb c5)]) (fun c5 h=>
 ie h (fun c6 h=>
 rr h [(3,.call (dK n hx4) [] [(0,0)] []),(0,eb c0_),(1,eb c1),(1,eb c2),(1,eb c3),(1,eb c4),(1,eb c5),(1,eb c6)]) (fun c6 h=>
 ie h (fun c7 h=>
 rr h [(3,.call (dK n hx4) [] [(0,0)] []),(0,eb c0_),(1,eb c1),(1,eb c2),(1,eb c3),(1,eb c4),(1,eb c5),(1,eb c6),(1,eb c7)]) (fun c7 h=>
 ie h (fun c8 h=>
 ra (Xg (ahn n) n h) [(3,.call (dK n hx4) [] [(0,0)] []),(0,eb c0_),(1,eb c1),(1,eb c2),(1,eb c3),(1,eb c4),(1,eb c5),(1,eb c6),(1,eb c7),(1,eb c8)]) (fun c8 h=>
 ra (Xf (ahl n) n h) [(3,.call (dK n hx4) [] [(0,0)] []),(0,eb c0_),(1,eb c1),(1,eb c2),(1,eb c3),(1,eb c4),(1,eb c5),(1,eb c6),(1,eb c7),(1,eb c8)])))))))))
def Sz (n:Nat) (c0:aj):Option (ByteArray×aj):=M9 n c0
theorem aiW (n:Nat):K1 C107 Ol (Sz n):=fun _ _ h=>ca (X:=x107) (ahk n h)
def abo (r:(aH×aj)):AV:=.agg (jX r.1)
def V0 (r:(aH×aj)):List (Nat×Bx):= [(0,.flat 74 (bI r.2))]
def x74:=fx E0 Tryz.f74 [0] [0]
def A74:=Ax x74 abo V0
def C74:=Cx E0 74 abo V0
def TZ (c0:aj) (js:Int):LS:=⟨[(0,.loc 0 0),(1,.int .i64 js)],[(0,.flat 74 (bI c0))]⟩
def SS (n:Nat) (c0:aj) (js:Int):Option (aH×aj):=
 if js==3 then
 (F24 n c0 2).bind fun x7=>
 some ((aH.mk js x7.1 ByteArray.empty),x7.2)
 else
 if js==4 then
 (SA n c0).bind fun x9=>
 some ((aH.mk js x9.1 ByteArray.empty),x9.2)
 else
 (Sz n c0).bind fun x8=>
 some ((aH.mk 5 0 x8.1),x8.2)
theorem ajJ (n:Nat):K2 (A74 []) TZ (SS n):=fun c0 js r h=>
 ie h (fun c0_ h=>
 be h fun x7 hx7 h=>
 rr h [(2,eb c0_),(3,.call (dK n hx7) [] [(0,0)] [])]) (fun c0_ h=>
 ie h (fun c1 h=>
 be h fun x9 hx9 h=>
 rr h [(2,eb c0_),(1,eb c1),(3,.call (aiX n hx9) [] [(0,0)] [])]) (fun c1 h=>
 be h fun x8 hx8 h=>
 rr h [(2,eb c0_),(1,eb c1),(2,.call (aiW n hx8) [] [(0,0)] [])]))
def F74 (n:Nat) (c0:aj) (js:Int):Option (aH×aj):=SS n c0 js
theorem Rr (n:Nat):K2 C74 TZ (F74 n):=fun _ _ _ h=>ca (X:=x74) (ajJ n h)
def Vx (r:(aE×aj)):AV:=.agg (lO r.1)
def O0 (r:(aE×aj)):List (Nat×Bx):= [(0,.flat 74 (bI r.2))]
def x101:=fx E0 Tryz.f101 [0] [0]
def nN:=Ax x101 Vx O0
def C101:=Cx E0 101 Vx O0
def Dy (params2:Wq0) (cW:Int) (t15:Wq0) (t16 t17:Int) (b0:aj) (b8:aE) (b29:Wq6):LS:=⟨[(0,.loc 0 0),(2,.slice 3 1 (bq params2)),(3,.int .i64 cW),(8,.loc 8 0),(9,.ms 29 5 0 b29.length),(15,.slice 3 1 (bq t15)),(16,.int .i64 t16),(17,.int .i64 t17)],[(0,.flat 74 (bI b0)),(8,.flat 82 (lO b8)),(29,.rows true 82 5 (tf b29))]⟩
def Dx (cW:Int) (t31:Wq0) (t32 t33:Int) (b0:aj) (b8:aE) (b29:Wq6):LS:=⟨[(0,.loc 0 0),(3,.int .i64 cW),(8,.loc 8 0),(9,.ms 29 5 0 b29.length),(31,.slice 3 1 (bq t31)),(32,.int .i64 t32),(33,.int .i64 t33)],[(0,.flat 74 (bI b0)),(8,.flat 82 (lO b8)),(29,.rows true 82 5 (tf b29))]⟩
def Dw (cW:Int) (b0:aj) (b8:aE) (b29:Wq6):LS:=⟨[(0,.loc 0 0),(3,.int .i64 cW),(8,.loc 8 0),(9,.ms 29 5 0 b29.length)],[(0,.flat 74 (bI b0)),(8,.flat 82 (lO b8)),(29,.rows true 82 5 (tf b29))]⟩
def Dv (params2:Wq0) (cW:Int) (b0:aj) (b8:aE) (b29:Wq6):LS:=⟨[(0,.loc 0 0),(2,.slice 3 1 (bq params2)),(3,.int .i64 cW),(8,.loc 8 0),(9,.ms 29 5 0 b29.length)],[(0,.flat 74 (bI b0)),(8,.flat 82 (lO b8)),(29,.rows true 82 5 (tf b29))]⟩
def Oo (c0:aj) (aY params2:Wq0) (cW:Int):LS:=⟨[(0,.loc 0 0),(1,.slice 3 1 (bq aY)),(2,.slice 3 1 (bq params2)),(3,.int .i64 cW)],[(0,.flat 74 (bI c0))]⟩
def CV (k_3:Wq0->Int->aj->aE->Wq6->Option (aE×aj)) (back:Wq0->Int->Wq0->Int->Int->aj->aE->Wq6->Option (aE×aj)) (n:Nat) (params2:Wq0) (cW:Int) (t15:Wq0) (t16 t17:Int) (b0:aj) (b8:aE) (b29:Wq6):Option (aE×aj):=
 if decide (t17<t16) then
 (idx t15 t17).bind fun x3=>
 if x3==cW then
 (app b29 [(aE.mk 1 t17 (aH.mk 0 0 ByteArray.empty))]).bind fun x15=>
 back params2 cW t15 t16 (w64 (t17+1)) b0 b8 x15
 else
 back params2 cW t15 t16 (w64 (t17+1)) b0 b8 b29
 else
 k_3 params2 cW b0 b8 b29
theorem ahG {k_3} (bT:K5 (nN [1,1,1]) Dv k_3) {back} (aD:K8 (nN [0,1,0,1,1]) Dy back) (n:Nat):K8 (nN [0,1,0,1,1]) Dy (CV k_3 back n):=fun params2 cW t15 t16 t17 b0 b8 b29 r h=>
 ie h (fun c0_ h=>
 be h fun x3 hx3 h=>
 ie h (fun c1 h=>
 be h fun x15 fA h=>
 ra (aD h) [(0,eb c0_),(1,R3.idx hx3),(5,eb c1),(4,R81.app fA (R81.srW [(aE.mk 1 t17 (aH.mk 0 0 ByteArray.empty))]))]) (fun c1 h=>
 ra (aD h) [(0,eb c0_),(1,R3.idx hx3),(5,eb c1)])) (fun c0_ h=>
 ra (bT h) [(0,eb c0_)])
def tP (k_3:Wq0->Int->aj->aE->Wq6->Option (aE×aj)):Nat->Wq0->Int->Wq0->Int->Int->aj->aE->Wq6->Option (aE×aj)
 |0,_,_,_,_,_,_,_,_=>none
 |n+1,params2,cW,t15,t16,t17,b0,b8,b29=>CV k_3 (tP k_3 n) n params2 cW t15 t16 t17 b0 b8 b29
theorem Xm {k_3} (bT:K5 (nN [1,1,1]) Dv k_3):∀n:Nat,K8 (nN [0,1,0,1,1]) Dy (tP k_3 n)
 |0=>fun _ _ _ _ _ _ _ _ _ h=>nz h
 |n+1=>fun _ _ _ _ _ _ _ _ _ h=>ahG bT (Xm bT n) n h
def CU (k_2:Int->aj->aE->Wq6->Option (aE×aj)) (back:Int->Wq0->Int->Int->aj->aE->Wq6->Option (aE×aj)) (n:Nat) (cW:Int) (t31:Wq0) (t32 t33:Int) (b0:aj) (b8:aE) (b29:Wq6):Option (aE×aj):=
 if decide (t33<t32) then
 (idx t31 t33).bind fun x3=>
 if x3==cW then
 (app b29 [(aE.mk 2 t33 (aH.mk 0 0 ByteArray.empty))]).bind fun x15=>
 back cW t31 t32 (w64 (t33+1)) b0 b8 x15
 else
 back cW t31 t32 (w64 (t33+1)) b0 b8 b29
 else
 k_2 cW b0 b8 b29
theorem ahF {k_2} (cS:K4 (nN [1,1,1,1]) Dw k_2) {back} (aD:K7 (nN [0,1,0,1,1,1]) Dx back) (n:Nat):K7 (nN [0,1,0,1,1,1]) Dx (CU k_2 back n):=fun cW t31 t32 t33 b0 b8 b29 r h=>
 ie h (fun c0_ h=>
 be h fun x3 hx3 h=>
 ie h (fun c1 h=>
 be h fun x15 fA h=>
 ra (aD h) [(0,eb c0_),(1,R3.idx hx3),(5,eb c1),(4,R81.app fA (R81.srW [(aE.mk 2 t33 (aH.mk 0 0 ByteArray.empty))]))]) (fun c1 h=>
 ra (aD h) [(0,eb c0_),(1,R3.idx hx3),(5,eb c1)])) (fun c0_ h=>
 ra (cS h) [(0,eb c0_)])
def tO (k_2:Int->aj->aE->Wq6->Option (aE×aj)):Nat->Int->Wq0->Int->Int->aj->aE->Wq6->Option (aE×aj)
 |0,_,_,_,_,_,_,_=>none
 |n+1,cW,t31,t32,t33,b0,b8,b29=>CU k_2 (tO k_2 n) n cW t31 t32 t33 b0 b8 b29
theorem Xl {k_2} (cS:K4 (nN [1,1,1,1]) Dw k_2):∀n:Nat,K7 (nN [0,1,0,1,1,1]) Dx (tO k_2 n)
 |0=>fun _ _ _ _ _ _ _ _ h=>nz h
 |n+1=>fun _ _ _ _ _ _ _ _ h=>ahF cS (Xl cS n) n h
def xh (n:Nat) (cW:Int) (b0:aj) (b8:aE) (b29:Wq6):Option (aE×aj):=
 (F24 n b0 (w64 ((b29.length:Int)+1))).bind fun x5=>
 if decide (x5.1<(b29.length:Int)) then
 (bnd b29.length x5.1).bind fun x14=>
 (b29[0+x14]?).bind fun x16=>
 some (x16,x5.2)
 else
 (F74 n x5.2 cW).bind fun x14=>
 some ((aE.mk 3 0 x14.1),x14.2)
theorem ahE (n:Nat):K4 (nN [1,1,1,1]) Dw (xh n):=fun cW b0 b8 b29 r h=>
 be h fun x5 hx5 h=>
 ie h (fun c0_ h=>
 be h fun x14 fQ h=>
 be h fun x16 cO h=>
 rr h [(4,.call (dK n hx5) [] [(0,0)] []),(4,eb c0_),(2,eA fQ),(0,R81.row cO)]) (fun c0_ h=>
 be h fun x14 fQ h=>
 rr h [(4,.call (dK n hx5) [] [(0,0)] []),(4,eb c0_),(2,.call (Rr n fQ) [] [(0,0)] [])])
def CT (n:Nat) (params2:Wq0) (cW:Int) (b0:aj) (b8:aE) (b29:Wq6):Option (aE×aj):=
 tO (xh n) n cW params2 (params2.length:Int) 0 b0 b8 b29
theorem ahD (n:Nat):K5 (nN [1,1,1]) Dv (CT n):=fun params2 cW b0 b8 b29 r h=>
 ra (Xl (ahE n) n h) [(1,.eqv (R3.ax params2))]
def Yr (n:Nat) (c0:aj) (aY params2:Wq0) (cW:Int):Option (aE×aj):=
 tP (CT n) n params2 cW aY (aY.length:Int) 0 c0 (aE.mk 0 0 (aH.mk 0 0 ByteArray.empty)) []
theorem ahC (n:Nat):K4 (nN []) Oo (Yr n):=fun c0 aY params2 cW r h=>
 ra (Xm (ahD n) n h) [(3,.eqv (R3.ax aY)),(1,.born [9] [] 29 true 82 5)]
def SB (n:Nat) (c0:aj) (aY params2:Wq0) (cW:Int):Option (aE×aj):=Yr n c0 aY params2 cW
theorem RC (n:Nat):K4 C101 Oo (SB n):=fun _ _ _ _ _ h=>ca (X:=x101) (ahC n h)
def abq (r:(an×aj)):AV:=.agg (gO r.1)
def V2 (r:(an×aj)):List (Nat×Bx):= [(0,.flat 74 (bI r.2))]
def x72:=fx E0 Tryz.f72 [0] [0]
def A72:=Ax x72 abq V2
def C72:=Cx E0 72 abq V2
def afI (b0:aj) (b8 b11:an):LS:=⟨[(0,.loc 0 0),(8,.loc 8 0),(11,.loc 11 0)],[(0,.flat 74 (bI b0)),(8,.flat 84 [.int .i64 0,.int .i64 0,.int .i64 0,.int .i64 0,.int .i64 0,.int .i64 0,.str ByteArray.empty,.int .i64 0,.int .i64 0,.int .i64 0,.int .i64 0,.str ByteArray.empty,.aT]),(11,.flat 84 [.int .i64 3,.int .i64 b11.hJ,.int .i64 b11.bD.aw,.int .i64 b11.bD.bO,.int .i64 b11.bD.aV.aw,.int .i64 b11.bD.aV.bM,.str b11.bD.aV.bt,.int .i64 b11.br.aw,.int .i64 b11.br.bO,.int .i64 b11.br.aV.aw,.int .i64 b11.br.aV.bM,.str b11.br.aV.bt,.aT])]⟩
def afH (aY params2:Wq0) (tz:Int) (b0:aj) (b8:an):LS:=⟨[(0,.loc 0 0),(1,.slice 3 1 (bq aY)),(2,.slice 3 1 (bq params2)),(8,.loc 8 0),(10,.int .i64 tz)],[(0,.flat 74 (bI b0)),(8,.flat 84 [.int .i64 0,.int .i64 0,.int .i64 0,.int .i64 0,.int .i64 0,.int .i64 0,.str ByteArray.empty,.int .i64 0,.int .i64 0,.int .i64 0,.int .i64 0,.str ByteArray.empty,.aT])]⟩
def II (aY params2:Wq0) (dA n13:Int) (b0:aj) (b8 b12:an) (ll:Wq8):LS:=⟨[(0,.loc 0 0),(1,.slice 3 1 (bq aY)),(2,.slice 3 1 (bq params2)),(3,.int .i64 dA),(8,.loc 8 0),(12,.loc 12 0),(13,.int .i64 n13)],[(0,.flat 74 (bI b0)),(8,.flat 84 [.int .i64 b8.fOp,.int .i64 b8.hJ,.int .i64 b8.bD.aw,.int .i64 b8.bD.bO,.int .i64 b8.bD.aV.aw,.int .i64 b8.bD.aV.bM,.str b8.bD.aV.bt,.int .i64 b8.br.aw,.int .i64 b8.br.bO,.int .i64 b8.br.aV.aw,.int .i64 b8.br.aV.bM,.str b8.br.aV.bt,.aT]),(12,.flat 84 [.int .i64 b12.fOp,.int .i64 b12.hJ,.int .i64 b12.bD.aw,.int .i64 b12.bD.bO,.int .i64 b12.bD.aV.aw,.int .i64 b12.bD.aV.bM,.str b12.bD.aV.bt,.int .i64 b12.br.aw,.int .i64 b12.br.bO,.int .i64 b12.br.aV.aw,.int .i64 b12.br.aV.bM,.str b12.br.aV.bt,.ms 104 13 0 ll.length]),(104,.rows true 84 13 (il ll))]⟩
def IH (b0:aj) (b8 b12:an) (ll:Wq8):LS:=⟨[(8,.loc 8 0),(12,.loc 12 0)],[(0,.flat 74 (bI b0)),(8,.flat 84 [.int .i64 b8.fOp,.int .i64 b8.hJ,.int .i64 b8.bD.aw,.int .i64 b8.bD.bO,.int .i64 b8.bD.aV.aw,.int .i64 b8.bD.aV.bM,.str b8.bD.aV.bt,.int .i64 b8.br.aw,.int .i64 b8.br.bO,.int .i64 b8.br.aV.aw,.int .i64 b8.br.aV.bM,.str b8.br.aV.bt,.aT]),(12,.flat 84 [.int .i64 b12.fOp,.int .i64 b12.hJ,.int .i64 b12.bD.aw,.int .i64 b12.bD.bO,.int .i64 b12.bD.aV.aw,.int .i64 b12.bD.aV.bM,.str b12.bD.aV.bt,.int .i64 b12.br.aw,.int .i64 b12.br.bO,.int .i64 b12.br.aV.aw,.int .i64 b12.br.aV.bM,.str b12.br.aV.bt,.ms 104 13 0 ll.length]),(104,.rows true 84 13 (il ll))]⟩
def afG (aY params2:Wq0) (dA op9:Int) (t27:Bool) (b0:aj) (b8:an):LS:=⟨[(0,.loc 0 0),(1,.slice 3 1 (bq aY)),(2,.slice 3 1 (bq params2)),(3,.int .i64 dA),(8,.loc 8 0),(9,.int .i64 op9),(27,.bool t27)],[(0,.flat 74 (bI b0)),(8,.flat 84 [.int .i64 0,.int .i64 0,.int .i64 0,.int .i64 0,.int .i64 0,.int .i64 0,.str ByteArray.empty,.int .i64 0,.int .i64 0,.int .i64 0,.int .i64 0,.str ByteArray.empty,.aT])]⟩
def mC (c0:aj) (aY params2:Wq0) (dA:Int):LS:=⟨[(0,.loc 0 0),(1,.slice 3 1 (bq aY)),(2,.slice 3 1 (bq params2)),(3,.int .i64 dA)],[(0,.flat 74 (bI c0))]⟩
def Cs (dv:aj->Wq0->Wq0->Int->Option (an×aj)) (n:Nat) (b0:aj) (b8 b11:an):Option (an×aj):=
 (F29 n b0 6).bind fun x2=>
 if x2.1 then
 some ((an.mk 3 b11.hJ b11.br b11.bD []),x2.2)
 else
 some ((an.mk 3 b11.hJ b11.bD b11.br []),x2.2)
theorem adN {dv} (gJ:K4 C72 mC dv) (n:Nat):K3 (A72 [1,1,1,1,0,1,1,1,0,0,1,1]) afI (Cs dv n):=fun b0 b8 b11 r h=>
 be h fun x2 hx2 h=>
 ie h (fun c0_ h=>
 rr h [(1,.call (cb (fT n hx2) c0_) [] [(0,0)] []),(10,.norm [] [(8,.flat [.same,.same,.same,.same,.same,.same,.same,.same,.same,.same,.same,.same,.sl 84 13])])]) (fun c0_ h=>
 rr h [(1,.call (cb (fT n hx2) c0_) [] [(0,0)] []),(2,.norm [] [(8,.flat [.same,.same,.same,.same,.same,.same,.same,.same,.same,.same,.same,.same,.sl 84 13])])])
def Cr (dv:aj->Wq0->Wq0->Int->Option (an×aj)) (n:Nat) (aY params2:Wq0) (tz:Int) (b0:aj) (b8:an):Option (an×aj):=
 (F24 n b0 6).bind fun x2=>
 (SB n x2.2 aY params2 tz).bind fun x9=>
 (F74 n x9.2 tz).bind fun x13=>
 (F29 n x13.2 3).bind fun x20=>
 if x20.1 then
 (SB n x20.2 aY params2 tz).bind fun x26=>
 Cs dv n x26.2 (an.mk 0 0 (aE.mk 0 0 (aH.mk 0 0 ByteArray.empty)) (aE.mk 0 0 (aH.mk 0 0 ByteArray.empty)) []) (an.mk 3 (w64 (1+x2.1)) x9.1 x26.1 [])
 else
 Cs dv n x20.2 (an.mk 0 0 (aE.mk 0 0 (aH.mk 0 0 ByteArray.empty)) (aE.mk 0 0 (aH.mk 0 0 ByteArray.empty)) []) (an.mk 3 (w64 (1+x2.1)) x9.1 (aE.mk 3 0 x13.1) [])
theorem adM {dv} (gJ:K4 C72 mC dv) (n:Nat):K5 (A72 [1,1,0,1,1,1,0,0,1,1]) afH (Cr dv n):=fun aY params2 tz b0 b8 r h=>
 be h fun x2 hx2 h=>
 be h fun x9 hx9 h=>
 be h fun x13 bY h=>
 be h fun x20 l7 h=>
 ie h (fun c0_ h=>
 be h fun x26 jS h=>
 ra (adN gJ n h) [(1,.call (dK n hx2) [] [(0,0)] []),(5,.call (RC n hx9) [] [(0,0)] []),(2,.call (Rr n bY) [] [(0,0)] []),(5,.call (cb (fT n l7) c0_) [] [(0,0)] []),(4,.call (RC n jS) [] [(0,0)] [])]) (fun c0_ h=>
 ra (adN gJ n h) [(1,.call (dK n hx2) [] [(0,0)] []),(5,.call (RC n hx9) [] [(0,0)] []),(2,.call (Rr n bY) [] [(0,0)] []),(5,.call (cb (fT n l7) c0_) [] [(0,0)] [])])
def Ha (dv:aj->Wq0->Wq0->Int->Option (an×aj)) (k_3:aj->an->an->Wq8->Option (an×aj)) (back:Wq0->Wq0->Int->Int->aj->an->an->Wq8->Option (an×aj)) (n:Nat) (aY params2:Wq0) (dA n13:Int) (b0:aj) (b8 b12:an) (ll:Wq8):Option (an×aj):=
 if !decide (n13<0) then
 (dv b0 aY params2 (w64 (dA - 1))).bind fun x10=>
 (app ll [x10.1]).bind fun x13=>
 back aY params2 dA (w64 (n13 - 1)) x10.2 (an.mk b8.fOp b8.hJ b8.bD b8.br []) (an.mk b12.fOp b12.hJ b12.bD b12.br x13) x13
 else
 k_3 b0 (an.mk b8.fOp b8.hJ b8.bD b8.br []) (an.mk b12.fOp b12.hJ b12.bD b12.br ll) ll
theorem ajN {dv} (gJ:K4 C72 mC dv) {k_3} (bT:K4 (A72 [1,1,1,1,1]) IH k_3) {back} (aD:K8 (A72 [0,1,0,1,1,1,1]) II back) (n:Nat):K8 (A72 [0,1,0,1,1,1,1]) II (Ha dv k_3 back n):=fun aY params2 dA n13 b0 b8 b12 ll r h=>
 ie h (fun c0_ h=>
 be h fun x10 de h=>
 be h fun x13 bY h=>
 ra (aD h) [(1,eb c0_),(7,.call (gJ de) [] [(0,0)] []),(0,.laid (congrArg (fun q_=>Bx.rows false 84 13 q_) (R83.map [x10.1]).symm)),(0,R83.app bY (R83.srW [x10.1]))]) (fun c0_ h=>
 ra (bT h) [(1,eb c0_)])
def yf (dv:aj->Wq0->Wq0->Int->Option (an×aj)) (k_3:aj->an->an->Wq8->Option (an×aj)):Nat->Wq0->Wq0->Int->Int->aj->an->an->Wq8->Option (an×aj)
 |0,_,_,_,_,_,_,_,_=>none
 |n+1,aY,params2,dA,n13,b0,b8,b12,ll=>Ha dv k_3 (yf dv k_3 n) n aY params2 dA n13 b0 b8 b12 ll
theorem acD {dv} (gJ:K4 C72 mC dv) {k_3} (bT:K4 (A72 [1,1,1,1,1]) IH k_3):∀n:Nat,K8 (A72 [0,1,0,1,1,1,1]) II (yf dv k_3 n)
 |0=>fun _ _ _ _ _ _ _ _ _ h=>nz h
 |n+1=>fun _ _ _ _ _ _ _ _ _ h=>ajN gJ bT (acD gJ bT n) n h
def G9 (dv:aj->Wq0->Wq0->Int->Option (an×aj)) (n:Nat) (b0:aj) (b8 b12:an) (ll:Wq8):Option (an×aj):=
 some ((an.mk b12.fOp b12.hJ b12.bD b12.br ll),b0)
theorem ajM {dv} (gJ:K4 C72 mC dv) (n:Nat):K4 (A72 [1,1,1,1,1]) IH (G9 dv n):=fun b0 b8 b12 ll r h=>
 rr h [(2,R83.frz 104 ll),(0,.norm [] [(8,.flat [.same,.same,.same,.same,.same,.same,.same,.same,.same,.same,.same,.same,.sl 0 0])])]
def pP (dv:aj->Wq0->Wq0->Int->Option (an×aj)) (n:Nat) (aY params2:Wq0) (dA op9:Int) (t27:Bool) (b0:aj) (b8:an):Option (an×aj):=
 if t27 then
 if decide (0<(aY.length:Int)) then
 (F24 n b0 (aY.length:Int)).bind fun x9=>
 (idx aY x9.1).bind fun x11=>
 Cr dv n aY params2 x11 x9.2 (an.mk 0 0 (aE.mk 0 0 (aH.mk 0 0 ByteArray.empty)) (aE.mk 0 0 (aH.mk 0 0 ByteArray.empty)) [])
 else
 Cr dv n aY params2 4 b0 (an.mk 0 0 (aE.mk 0 0 (aH.mk 0 0 ByteArray.empty)) (aE.mk 0 0 (aH.mk 0 0 ByteArray.empty)) [])
 else
 if op9==6 then
 (dv b0 aY params2 (w64 (dA - 1))).bind fun x9=>
 some ((an.mk 6 0 (aE.mk 0 0 (aH.mk 0 0 ByteArray.empty)) (aE.mk 0 0 (aH.mk 0 0 ByteArray.empty)) [x9.1]),x9.2)
 else
 (F24 n b0 3).bind fun x11=>
 yf dv (G9 dv n) n aY params2 dA x11.1 x11.2 (an.mk 0 0 (aE.mk 0 0 (aH.mk 0 0 ByteArray.empty)) (aE.mk 0 0 (aH.mk 0 0 ByteArray.empty)) []) (an.mk (w64 ((w64 (4+op9)) - 7)) 0 (aE.mk 0 0 (aH.mk 0 0 ByteArray.empty)) (aE.mk 0 0 (aH.mk 0 0 ByteArray.empty)) []) []
theorem GN {dv} (gJ:K4 C72 mC dv) (n:Nat):K7 (A72 [1,1,1,0,0,1,1]) afG (pP dv n):=fun aY params2 dA op9 t27 b0 b8 r h=>
 ie h (fun c0_ g0=>by subst c0_;exact (
 ie g0 (fun c1 g0=>
 be g0 fun x9 hx9 g0=>
 be g0 fun x11 ct g0=>
 ra (adM gJ n g0) [(2,.eqv (R3.ax aY)),(0,eb c1),(3,.eqv (R3.ax aY)),(0,.call (dK n hx9) [] [(0,0)] []),(0,R3.idx ct)]) (fun c1 g0=>
 ra (adM gJ n g0) [(2,.eqv (R3.ax aY)),(0,eb c1)]))) (fun c0_ g0=>by subst c0_;exact (
 ie g0 (fun c1 g0=>
 be g0 fun x9 hx9 g0=>
 rr g0 [(1,eb c1),(6,.call (gJ hx9) [] [(0,0)] []),(0,.laid (congrArg (fun q_=>Bx.rows false 84 13 q_) (R83.map [x9.1]).symm)),(2,R83.frz 83 [x9.1])]) (fun c1 g0=>
 be g0 fun x11 ct g0=>
 ra (acD gJ (ajM gJ n) n g0) [(1,eb c1),(8,.call (dK n ct) [] [(0,0)] []),(1,.born [] [(12,12)] 104 true 84 13)])))
def SW (dv:aj->Wq0->Wq0->Int->Option (an×aj)) (n:Nat) (c0:aj) (aY params2:Wq0) (dA:Int):Option (an×aj):=
 (F24 n c0 9).bind fun x3=>
 if x3.1==0 then
 (F29 n x3.2 2).bind fun x10=>
 if x10.1 then
 (F24 n x10.2 2).bind fun x15=>
 some ((an.mk (w64 (1+x15.1)) 0 (aE.mk 0 0 (aH.mk 0 0 ByteArray.empty)) (aE.mk 0 0 (aH.mk 0 0 ByteArray.empty)) []),x15.2)
 else
 if decide (x3.1<6) then
 pP dv n aY params2 dA x3.1 true x10.2 (an.mk 0 0 (aE.mk 0 0 (aH.mk 0 0 ByteArray.empty)) (aE.mk 0 0 (aH.mk 0 0 ByteArray.empty)) [])
 else
 pP dv n aY params2 dA x3.1 (decide (dA<1)) x10.2 (an.mk 0 0 (aE.mk 0 0 (aH.mk 0 0 ByteArray.empty)) (aE.mk 0 0 (aH.mk 0 0 ByteArray.empty)) [])
 else
 if decide (x3.1<6) then
 pP dv n aY params2 dA x3.1 true x3.2 (an.mk 0 0 (aE.mk 0 0 (aH.mk 0 0 ByteArray.empty)) (aE.mk 0 0 (aH.mk 0 0 ByteArray.empty)) [])
 else
 pP dv n aY params2 dA x3.1 (decide (dA<1)) x3.2 (an.mk 0 0 (aE.mk 0 0 (aH.mk 0 0 ByteArray.empty)) (aE.mk 0 0 (aH.mk 0 0 ByteArray.empty)) [])
theorem ajL {dv} (gJ:K4 C72 mC dv) (n:Nat):K4 (A72 []) mC (SW dv n):=fun c0 aY params2 dA r h=>
 be h fun x3 hx3 h=>
 ie h (fun c0_ h=>
 be h fun x10 de h=>
 ie h (fun c1 h=>
 be h fun x15 fA h=>
 rr h [(2,.call (dK n hx3) [] [(0,0)] []),(2,eb c0_),(2,.call (cb (fT n de) c1) [] [(0,0)] []),(3,.call (dK n fA) [] [(0,0)] []),(3,.norm [] [(8,.flat [.same,.same,.same,.same,.same,.same,.same,.same,.same,.same,.same,.same,.sl 84 13])])]) (fun c1 h=>
 ie h (fun c2 h=>
 ra (GN gJ n h) [(2,.call (dK n hx3) [] [(0,0)] []),(2,eb c0_),(2,.call (cb (fT n de) c1) [] [(0,0)] []),(3,eb c2)]) (fun c2 h=>
 ra (GN gJ n h) [(2,.call (dK n hx3) [] [(0,0)] []),(2,eb c0_),(2,.call (cb (fT n de) c1) [] [(0,0)] []),(3,eb c2)]))) (fun c0_ h=>
 ie h (fun c1 h=>
 ra (GN gJ n h) [(2,.call (dK n hx3) [] [(0,0)] []),(2,eb c0_),(4,eb c1)]) (fun c1 h=>
 ra (GN gJ n h) [(2,.call (dK n hx3) [] [(0,0)] []),(2,eb c0_),(4,eb c1)]))
def F72:Nat->aj->Wq0->Wq0->Int->Option (an×aj)
 |0,_,_,_,_=>none
 |n+1,c0,aY,params2,dA=>SW (F72 n) n c0 aY params2 dA
theorem Rt:∀n:Nat,K4 C72 mC (F72 n)
 |0=>fun _ _ _ _ _ h=>nz h
 |n+1=>fun _ _ _ _ _ h=>ca (X:=x72) (ajL (Rt n) n h)
def Vm (r:Bool):AV:=.bool r
def OO (r:Bool):List (Nat×Bx):= []
def x113:=fx E0 Tryz.f113 [] []
def A113:=Ax x113 Vm OO
def C113:=Cx E0 113 Vm OO
def Oh (k0:Int):LS:=⟨[(0,.int .i64 k0)],[]⟩
def M3 (n:Nat) (k0:Int):Option Bool:=
 if k0==3 then
 some true
 else
 if k0==4 then
 some true
 else
 some (k0==5)
theorem agV (n:Nat):K1 (A113 []) Oh (M3 n):=fun k0 r h=>
 ie h (fun c0 h=>
 rr h [(2,eb c0)]) (fun c0 h=>
 ie h (fun c1 h=>
 rr h [(2,eb c0),(2,eb c1)]) (fun c1 h=>
 rr h [(2,eb c0),(2,eb c1)]))
def Sy (n:Nat) (k0:Int):Option Bool:=M3 n k0
theorem adA (n:Nat):K1 C113 Oh (Sy n):=fun _ _ h=>ca (X:=x113) (agV n h)
def Vw (r:Bool):AV:=.bool r
def OZ (r:Bool):List (Nat×Bx):= []
def x102:=fx E0 Tryz.f102 [] []
def Aq:=Ax x102 Vw OZ
def C102:=Cx E0 102 Vw OZ
def Du (t5:Wq0) (t6 t7:Int):LS:=⟨[(5,.slice 3 1 (bq t5)),(6,.int .i64 t6),(7,.int .i64 t7)],[]⟩
def Dt:LS:=⟨[],[]⟩
def On (l0:Wq0):LS:=⟨[(0,.slice 3 1 (bq l0))],[]⟩
def CS (k_1:Option Bool) (back:Wq0->Int->Int->Option Bool) (n:Nat) (t5:Wq0) (t6 t7:Int):Option Bool:=
 if decide (t7<t6) then
 (idx t5 t7).bind fun x2=>
 (Sy n x2).bind fun x7=>
 if !x7 then
 some false
 else
 back t5 t6 (w64 (t7+1))
 else
 k_1
theorem ahB {k_1} (aJ:K0 (Aq [1,1]) Dt k_1) {back} (aD:K3 (Aq [0,1,0,1]) Du back) (n:Nat):K3 (Aq [0,1,0,1]) Du (CS k_1 back n):=fun t5 t6 t7 r h=>
 ie h (fun c0 h=>
 be h fun x2 hx2 h=>
 be h fun x7 hx7 h=>
 ie h (fun c1 h=>
 rr h [(0,eb c0),(0,R3.idx hx2),(3,.call (adA n hx7) [] [] []),(0,eb c1)]) (fun c1 h=>
 ra (aD h) [(0,eb c0),(0,R3.idx hx2),(3,.call (adA n hx7) [] [] []),(0,eb c1)])) (fun c0 h=>
 ra (aJ h) [(0,eb c0)])
def tN (k_1:Option Bool):Nat->Wq0->Int->Int->Option Bool
 |0,_,_,_=>none
 |n+1,t5,t6,t7=>CS k_1 (tN k_1 n) n t5 t6 t7
theorem Xk {k_1} (aJ:K0 (Aq [1,1]) Dt k_1):∀n:Nat,K3 (Aq [0,1,0,1]) Du (tN k_1 n)
 |0=>fun _ _ _ _ h=>nz h
 |n+1=>fun _ _ _ _ h=>ahB aJ (Xk aJ n) n h
def Nh (n:Nat):Option Bool:=
 some true
theorem ahA (n:Nat):K0 (Aq [1,1]) Dt (Nh n):=fun r h=>
 rr h []
def Ng (n:Nat) (l0:Wq0):Option Bool:=
 tN (Nh n) n l0 (l0.length:Int) 0
theorem ahz (n:Nat):K1 (Aq []) On (Ng n):=fun l0 r h=>
 ra (Xk (ahA n) n h) [(2,.eqv (R3.ax l0))]
def MI (n:Nat) (l0:Wq0):Option Bool:=Ng n l0
theorem mS (n:Nat):K1 C102 On (MI n):=fun _ _ h=>ca (X:=x102) (ahz n h)
def Vv (r:Int):AV:=.int .i64 r
def OY (r:Int):List (Nat×Bx):= []
def x103:=fx E0 Tryz.f103 [] []
def Ap:=Ax x103 Vv OY
def MM:=Cx E0 103 Vv OY
def Ds (n1 i5:Int) (b2:an):LS:=⟨[(1,.int .i64 n1),(2,.loc 2 0),(5,.int .i64 i5)],[(2,.flat 84 (gO b2))]⟩
def Dr (n1:Int):LS:=⟨[(1,.int .i64 n1)],[]⟩
def p7 (p0:an) (n1:Int):LS:=⟨[(0,.agg (gO p0)),(1,.int .i64 n1)],[]⟩
def CQ (gE:an->Int->Option Int) (k_1:Int->Option Int) (back:Int->Int->an->Option Int) (n:Nat) (n1 i5:Int) (b2:an):Option Int:=
 if decide (i5<(b2.fArgs.length:Int)) then
 if !decide (24<n1) then
 (idx b2.fArgs i5).bind fun x13=>
 (gE x13 n1).bind fun x17=>
 back x17 (w64 (i5+1)) b2
 else
 k_1 n1
 else
 k_1 n1
theorem ahy {gE} (oB:K2 MM p7 gE) {k_1} (aJ:K1 (Ap [1,1,1]) Dr k_1) {back} (aD:K3 (Ap [0,1,0,1,1]) Ds back) (n:Nat):K3 (Ap [0,1,0,1,1]) Ds (CQ gE k_1 back n):=fun n1 i5 b2 r h=>
 ie h (fun c0 h=>
 ie h (fun c1 h=>
 be h fun x13 bY h=>
 be h fun x17 dZ h=>
 ra (aD h) [(3,.eqv (R83.ax b2.fArgs)),(0,eb c0),(2,eb c1),(4,R83.idx bY),(2,.call (oB dZ) [] [] [])]) (fun c1 h=>
 ra (aJ h) [(3,.eqv (R83.ax b2.fArgs)),(0,eb c0),(2,eb c1)])) (fun c0 h=>
 ra (aJ h) [(3,.eqv (R83.ax b2.fArgs)),(0,eb c0)])
def tM (gE:an->Int->Option Int) (k_1:Int->Option Int):Nat->Int->Int->an->Option Int
 |0,_,_,_=>none
 |n+1,n1,i5,b2=>CQ gE k_1 (tM gE k_1 n) n n1 i5 b2
theorem Xj {gE} (oB:K2 MM p7 gE) {k_1} (aJ:K1 (Ap [1,1,1]) Dr k_1):∀n:Nat,K3 (Ap [0,1,0,1,1]) Ds (tM gE k_1 n)
 |0=>fun _ _ _ _ h=>nz h
 |n+1=>fun _ _ _ _ h=>ahy oB aJ (Xj oB aJ n) n h
def Yq (gE:an->Int->Option Int) (n:Nat) (n1:Int):Option Int:=
 some n1
theorem ahx {gE} (oB:K2 MM p7 gE) (n:Nat):K1 (Ap [1,1,1]) Dr (Yq gE n):=fun n1 r h=>
 rr h []
def Nf (gE:an->Int->Option Int) (n:Nat) (p0:an) (n1:Int):Option Int:=
 tM gE (Yq gE n) n (w64 (n1+1)) 0 p0
theorem ahw {gE} (oB:K2 MM p7 gE) (n:Nat):K2 (Ap []) p7 (Nf gE n):=fun p0 n1 r h=>
 ra (Xj oB (ahx oB n) n h) []
def EN:Nat->an->Int->Option Int
 |0,_,_=>none
 |n+1,p0,n1=>Nf (EN n) n p0 n1
theorem BM:∀n:Nat,K2 MM p7 (EN n)
 |0=>fun _ _ _ h=>nz h
 |n+1=>fun _ _ _ h=>ca (X:=x103) (ahw (BM n) n h)
def Vu (r:Bool):AV:=.bool r
def OX (r:Bool):List (Nat×Bx):= []
def H8:=fx E0 Tryz.f104 [] []
def Ao:=Ax H8 Vu OX
def ML:=Cx E0 104 Vu OX
def Dq (n1 t10 t11:Int) (b2:an):LS:=⟨[(1,.int .i64 n1),(2,.loc 2 0),(10,.int .i64 t10),(11,.int .i64 t11)],[(2,.flat 84 (gO b2))]⟩
def Dp:LS:=⟨[],[]⟩
def pZ (p0:an) (n1:Int):LS:=⟨[(0,.agg (gO p0)),(1,.int .i64 n1)],[]⟩
def CP (gD:an->Int->Option Bool) (k_1:Option Bool) (back:Int->Int->Int->an->Option Bool) (n:Nat) (n1 t10 t11:Int) (b2:an):Option Bool:=
 if decide (t11<t10) then
 (idx b2.fArgs t11).bind fun x7=>
 (gD x7 (w64 (n1 - 1))).bind fun x12=>
 if x12 then
 some true
 else
 back n1 t10 (w64 (t11+1)) b2
 else
 k_1
theorem ahv {gD} (mO:K2 ML pZ gD) {k_1} (aJ:K0 (Ao [1,1,1]) Dp k_1) {back} (aD:K4 (Ao [0,1,0,1,1]) Dq back) (n:Nat):K4 (Ao [0,1,0,1,1]) Dq (CP gD k_1 back n):=fun n1 t10 t11 b2 r h=>
 ie h (fun c0 h=>
 be h fun x7 hx7 h=>
 be h fun x12 cB h=>
 ie h (fun c1 g0=>by subst c1;exact (
 rr g0 [(0,eb c0),(5,R83.idx hx7),(3,.call (mO cB) [] [] [])])) (fun c1 g0=>by subst c1;exact (
 ra (aD g0) [(0,eb c0),(5,R83.idx hx7),(3,.call (mO cB) [] [] [])]))) (fun c0 h=>
 ra (aJ h) [(0,eb c0)])
def tL (gD:an->Int->Option Bool) (k_1:Option Bool):Nat->Int->Int->Int->an->Option Bool
 |0,_,_,_,_=>none
 |n+1,n1,t10,t11,b2=>CP gD k_1 (tL gD k_1 n) n n1 t10 t11 b2
theorem Xi {gD} (mO:K2 ML pZ gD) {k_1} (aJ:K0 (Ao [1,1,1]) Dp k_1):∀n:Nat,K4 (Ao [0,1,0,1,1]) Dq (tL gD k_1 n)
 |0=>fun _ _ _ _ _ h=>nz h
 |n+1=>fun _ _ _ _ _ h=>ahv mO aJ (Xi mO aJ n) n h
def Nd (gD:an->Int->Option Bool) (n:Nat):Option Bool:=
 some false
theorem ahu {gD} (mO:K2 ML pZ gD) (n:Nat):K0 (Ao [1,1,1]) Dp (Nd gD n):=fun r h=>
 rr h []
def CO (gD:an->Int->Option Bool) (n:Nat) (p0:an) (n1:Int):Option Bool:=
 if n1==0 then
 some true
 else
 tL gD (Nd gD n) n n1 (p0.fArgs.length:Int) 0 p0
theorem aht {gD} (mO:K2 ML pZ gD) (n:Nat):K2 (Ao []) pZ (CO gD n):=fun p0 n1 r h=>
 ie h (fun c0 h=>
 rr h [(3,eb c0)]) (fun c0 h=>
 ra (Xi mO (ahu mO n) n h) [(3,eb c0),(2,.eqv (R83.ax p0.fArgs))])
def xb:Nat->an->Int->Option Bool
 |0,_,_=>none
 |n+1,p0,n1=>CO (xb n) n p0 n1
theorem Gy:∀n:Nat,K2 ML pZ (xb n)
 |0=>fun _ _ _ h=>nz h
 |n+1=>fun _ _ _ h=>ca (X:=H8) (aht (Gy n) n h)
def Vi (r:Bool):AV:=.bool r
def OK (r:Bool):List (Nat×Bx):= []
def x124:=fx E0 Tryz.f124 [] []
def A124:=Ax x124 Vi OK
def C124:=Cx E0 124 Vi OK
def Od (p0:an):LS:=⟨[(0,.agg (gO p0))],[]⟩
def MY (n:Nat) (p0:an):Option Bool:=
 if p0.hJ==0 then
 if ((p0.bD.aw==0) && ((p0.bD.bO==0) && (((p0.bD.aV.aw==0) && ((p0.bD.aV.bM==0) && ((decide (p0.bD.aV.bt=ByteArray.empty)) && true))) && true))) then
 some ((p0.br.aw==0) && ((p0.br.bO==0) && (((p0.br.aV.aw==0) && ((p0.br.aV.bM==0) && ((decide (p0.br.aV.bt=ByteArray.empty)) && true))) && true)))
 else
 some false
 else
 some false
theorem agR (n:Nat):K1 (A124 []) Od (MY n):=fun p0 r h=>
 ie h (fun c0 h=>
 ie h (fun c1 h=>
 rr h [(4,eb c0),(4,eb c1)]) (fun c1 h=>
 rr h [(4,eb c0),(4,eb c1)])) (fun c0 h=>
 rr h [(4,eb c0)])
def EK (n:Nat) (p0:an):Option Bool:=MY n p0
theorem xI (n:Nat):K1 C124 Od (EK n):=fun _ _ h=>ca (X:=x124) (agR n h)
def abf (r:Bool):AV:=.bool r
def VQ (r:Bool):List (Nat×Bx):= []
def x88:=fx E0 Tryz.f88 [] []
def A88:=Ax x88 abf VQ
def C88:=Cx E0 88 abf VQ
def TQ (v0:aH):LS:=⟨[(0,.agg (jX v0))],[]⟩
def SK (n:Nat) (v0:aH):Option Bool:=
 if v0.aw==1 then
 if v0.bM==0 then
 some (decide (v0.bt=ByteArray.empty))
 else
 some false
 else
 if v0.aw==2 then
 if v0.bM==0 then
 some (decide (v0.bt=ByteArray.empty))
 else
 some false
 else
 if v0.aw==3 then
 if v0.bM==0 then
 some (decide (v0.bt=ByteArray.empty))
 else
 if v0.bM==1 then
 some (decide (v0.bt=ByteArray.empty))
 else
 some false
 else
 if v0.aw==4 then
 some (decide (v0.bt=ByteArray.empty))
 else
 if v0.aw==5 then
 if v0.bM==0 then
 some (!decide (64<(v0.bt.size:Int)))
 else
 some false
 else
 some false
theorem ajm (n:Nat):K1 (A88 []) TQ (SK n):=fun v0 r h=>
 ie h (fun c0 h=>
 ie h (fun c1 h=>
 rr h [(4,eb c0),(3,eb c1)]) (fun c1 h=>
 rr h [(4,eb c0),(3,eb c1)])) (fun c0 h=>
 ie h (fun c1 h=>
 ie h (fun c2 h=>
 rr h [(4,eb c0),(1,eb c1),(3,eb c2)]) (fun c2 h=>
 rr h [(4,eb c0),(1,eb c1),(3,eb c2)])) (fun c1 h=>
 ie h (fun c2 h=>
 ie h (fun c3 h=>
 rr h [(4,eb c0),(1,eb c1),(1,eb c2),(3,eb c3)]) (fun c3 h=>
 ie h (fun c4 h=>
 rr h [(4,eb c0),(1,eb c1),(1,eb c2),(3,eb c3),(3,eb c4)]) (fun c4 h=>
 rr h [(4,eb c0),(1,eb c1),(1,eb c2),(3,eb c3),(3,eb c4)]))) (fun c2 h=>
 ie h (fun c3 h=>
 rr h [(4,eb c0),(1,eb c1),(1,eb c2),(1,eb c3)]) (fun c3 h=>
 ie h (fun c4 h=>
 ie h (fun c5 h=>
 rr h [(4,eb c0),(1,eb c1),(1,eb c2),(1,eb c3),(1,eb c4),(3,eb c5)]) (fun c5 h=>
 rr h [(4,eb c0),(1,eb c1),(1,eb c2),(1,eb c3),(1,eb c4),(3,eb c5)])) (fun c4 h=>
 rr h [(4,eb c0),(1,eb c1),(1,eb c2),(1,eb c3),(1,eb c4)])))))
def F88 (n:Nat) (v0:aH):Option Bool:=SK n v0
theorem ev88 (n:Nat):K1 C88 TQ (F88 n):=fun _ _ h=>ca (X:=x88) (ajm n h)
def Vc (r:Bool):AV:=.bool r
def OE (r:Bool):List (Nat×Bx):= []
def x140:=fx E0 Tryz.f140 [] []
def A140:=Ax x140 Vc OE
def C140:=Cx E0 140 Vc OE
def N5 (v0:aH):LS:=⟨[(0,.agg (jX v0))],[]⟩
def MS (n:Nat) (v0:aH):Option Bool:=
 (F88 n v0).bind fun x4=>
 if x4 then
 some (!decide (v0.aw<3))
 else
 some false
theorem agL (n:Nat):K1 (A140 []) N5 (MS n):=fun v0 r h=>
 be h fun x4 hx4 h=>
 ie h (fun c0 g0=>by subst c0;exact (
 rr g0 [(3,.call (ev88 n hx4) [] [] [])])) (fun c0 g0=>by subst c0;exact (
 rr g0 [(3,.call (ev88 n hx4) [] [] [])]))
def Ss (n:Nat) (v0:aH):Option Bool:=MS n v0
theorem ady (n:Nat):K1 C140 N5 (Ss n):=fun _ _ h=>ca (X:=x140) (agL n h)
def Vh (r:Int):AV:=.int .i64 r
def OJ (r:Int):List (Nat×Bx):= []
def x125:=fx E0 Tryz.f125 [] []
def A125:=Ax x125 Vh OJ
def C125:=Cx E0 125 Vh OJ
def aeo (rR:Wq0) (b5:aE):LS:=⟨[(5,.loc 5 0),(7,.slice 3 1 (bq rR))],[(5,.flat 82 (lO b5))]⟩
def Oa (bp params1:Wq0) (o2:aE):LS:=⟨[(0,.slice 3 1 (bq bp)),(1,.slice 3 1 (bq params1)),(2,.agg (lO o2))],[]⟩
def xe (n:Nat) (rR:Wq0) (b5:aE):Option Int:=
 if decide (b5.bO<0) then
 some 0
 else
 if !decide (b5.bO<(rR.length:Int)) then
 some 0
 else
 if !((b5.aV.aw==0) && ((b5.aV.bM==0) && ((decide (b5.aV.bt=ByteArray.empty)) && true))) then
 some 0
 else
 (idx rR b5.bO).bind fun x20=>
 some x20
theorem XW (n:Nat):K2 (A125 [1,1,1]) aeo (xe n):=fun rR b5 r h=>
 ie h (fun c0 h=>
 rr h [(2,eb c0)]) (fun c0 h=>
 ie h (fun c1 h=>
 rr h [(2,eb c0),(4,.eqv (R3.ax rR)),(0,eb c1)]) (fun c1 h=>
 ie h (fun c2 h=>
 rr h [(2,eb c0),(4,.eqv (R3.ax rR)),(0,eb c1),(5,eb c2)]) (fun c2 h=>
 be h fun x20 l7 h=>
 rr h [(2,eb c0),(4,.eqv (R3.ax rR)),(0,eb c1),(5,eb c2),(4,R3.idx l7)])))
def MX (n:Nat) (bp params1:Wq0) (o2:aE):Option Int:=
 if o2.aw==3 then
 if o2.bO !=0 then
 some 0
 else
 (Ss n o2.aV).bind fun x15=>
 if !x15 then
 some 0
 else
 some o2.aV.aw
 else
 if o2.aw==2 then
 xe n params1 o2
 else
 if o2.aw==1 then
 xe n bp o2
 else
 some 0
theorem agQ (n:Nat):K3 (A125 []) Oa (MX n):=fun bp params1 o2 r h=>
 ie h (fun c0 h=>
 ie h (fun c1 h=>
 rr h [(6,eb c0),(3,eb c1)]) (fun c1 h=>
 be h fun x15 fA h=>
 ie h (fun c2 h=>
 rr h [(6,eb c0),(3,eb c1),(3,.call (ady n fA) [] [] []),(0,eb c2)]) (fun c2 h=>
 rr h [(6,eb c0),(3,eb c1),(3,.call (ady n fA) [] [] []),(0,eb c2)]))) (fun c0 h=>
 ie h (fun c1 h=>
 ra (XW n h) [(6,eb c0),(1,eb c1)]) (fun c1 h=>
 ie h (fun c2 h=>
 ra (XW n h) [(6,eb c0),(1,eb c1),(1,eb c2)]) (fun c2 h=>
 rr h [(6,eb c0),(1,eb c1),(1,eb c2)])))
def MF (n:Nat) (bp params1:Wq0) (o2:aE):Option Int:=MX n bp params1 o2
theorem xH (n:Nat):K3 C125 Oa (MF n):=fun _ _ _ _ h=>ca (X:=x125) (agQ n h)
def Vt (r:Bool):AV:=.bool r
def OW (r:Bool):List (Nat×Bx):= []
def x105:=fx E0 Tryz.f105 [] []
def xj:=Ax x105 Vt OW
def ER:=Cx E0 105 Vt OW
def Dn (bp params1:Wq0) (t70 t71:Int) (b5:an):LS:=⟨[(0,.slice 3 1 (bq bp)),(1,.slice 3 1 (bq params1)),(5,.loc 5 0),(70,.int .i64 t70),(71,.int .i64 t71)],[(5,.flat 84 (gO b5))]⟩
def Dl:LS:=⟨[],[]⟩
def aes (bp params1:Wq0) (b5:an):LS:=⟨[(0,.slice 3 1 (bq bp)),(1,.slice 3 1 (bq params1)),(5,.loc 5 0)],[(5,.flat 84 (gO b5))]⟩
def na (bp params1:Wq0) (p2:an):LS:=⟨[(0,.slice 3 1 (bq bp)),(1,.slice 3 1 (bq params1)),(2,.agg (gO p2))],[]⟩
def CN (eu:Wq0->Wq0->an->Option Bool) (k_1:Option Bool) (back:Wq0->Wq0->Int->Int->an->Option Bool) (n:Nat) (bp params1:Wq0) (t70 t71:Int) (b5:an):Option Bool:=
 if decide (t71<t70) then
 (idx b5.fArgs t71).bind fun x9=>
 (eu bp params1 x9).bind fun x12=>
 if !x12 then
 some false
 else
 back bp params1 t70 (w64 (t71+1)) b5
 else
 k_1
theorem ahs {eu} (jB:K3 ER na eu) {k_1} (aJ:K0 (xj [1,1,1,1]) Dl k_1) {back} (aD:K5 (xj [0,1,0,1,1,1]) Dn back) (n:Nat):K5 (xj [0,1,0,1,1,1]) Dn (CN eu k_1 back n):=fun bp params1 t70 t71 b5 r h=>
 ie h (fun c0 h=>
 be h fun x9 hx9 h=>
 be h fun x12 cB h=>
 ie h (fun c1 h=>
 rr h [(0,eb c0),(7,R83.idx hx9),(1,.call (jB cB) [] [] []),(0,eb c1)]) (fun c1 h=>
 ra (aD h) [(0,eb c0),(7,R83.idx hx9),(1,.call (jB cB) [] [] []),(0,eb c1)])) (fun c0 h=>
 ra (aJ h) [(0,eb c0)])
def ru (eu:Wq0->Wq0->an->Option Bool) (k_1:Option Bool):Nat->Wq0->Wq0->Int->Int->an->Option Bool
 |0,_,_,_,_,_=>none
 |n+1,bp,params1,t70,t71,b5=>CN eu k_1 (ru eu k_1 n) n bp params1 t70 t71 b5
theorem Xh {eu} (jB:K3 ER na eu) {k_1} (aJ:K0 (xj [1,1,1,1]) Dl k_1):∀n:Nat,K5 (xj [0,1,0,1,1,1]) Dn (ru eu k_1 n)
 |0=>fun _ _ _ _ _ _ h=>nz h
 |n+1=>fun _ _ _ _ _ _ h=>ahs jB aJ (Xh jB aJ n) n h
def Nc (eu:Wq0->Wq0->an->Option Bool) (n:Nat):Option Bool:=
 some true
theorem ahr {eu} (jB:K3 ER na eu) (n:Nat):K0 (xj [1,1,1,1]) Dl (Nc eu n):=fun r h=>
 rr h []
def tS (eu:Wq0->Wq0->an->Option Bool) (n:Nat) (bp params1:Wq0) (b5:an):Option Bool:=
 (EK n b5).bind fun x2=>
 if !x2 then
 some false
 else
 ru eu (Nc eu n) n bp params1 (b5.fArgs.length:Int) 0 b5
theorem LZ {eu} (jB:K3 ER na eu) (n:Nat):K3 (xj [1,1]) aes (tS eu n):=fun bp params1 b5 r h=>
 be h fun x2 hx2 h=>
 ie h (fun c0 h=>
 rr h [(1,.call (xI n hx2) [] [] []),(0,eb c0)]) (fun c0 h=>
 ra (Xh jB (ahr jB n) n h) [(1,.call (xI n hx2) [] [] []),(0,eb c0),(2,.eqv (R83.ax b5.fArgs))])
def Nb (eu:Wq0->Wq0->an->Option Bool) (n:Nat) (bp params1:Wq0) (p2:an):Option Bool:=
 if p2.fOp==1 then
 (EK n p2).bind fun x8=>
 if x8 then
 some ((p2.fArgs.length:Int)==0)
 else
 some false
 else
 if p2.fOp==2 then
 (EK n p2).bind fun x10=>
 if x10 then
 some ((p2.fArgs.length:Int)==0)
 else
 some false
 else
 if p2.fOp==3 then
 (MF n bp params1 p2.bD).bind fun x15=>
 if (p2.fArgs.length:Int)==0 then
 if !decide (p2.hJ<1) then
 if !decide (6<p2.hJ) then
 if x15 !=0 then
 (MF n bp params1 p2.br).bind fun x42=>
 some (x15==x42)
 else
 some false
 else
 some false
 else
 some false
 else
 some false
 else
 if p2.fOp==4 then
 tS eu n bp params1 p2
 else
 if p2.fOp==5 then
 tS eu n bp params1 p2
 else
 if p2.fOp==6 then
 if (p2.fArgs.length:Int) !=1 then
 some false
 else
 tS eu n bp params1 p2
 else
 some false
theorem ahq {eu} (jB:K3 ER na eu) (n:Nat):K3 (xj []) na (Nb eu n):=fun bp params1 p2 r h=>
 ie h (fun c0 h=>
 be h fun x8 hx8 h=>
 ie h (fun c1 g0=>by subst c1;exact (
 rr g0 [(4,eb c0),(2,.call (xI n hx8) [] [] []),(3,.eqv (R83.ax p2.fArgs))])) (fun c1 g0=>by subst c1;exact (
 rr g0 [(4,eb c0),(2,.call (xI n hx8) [] [] [])]))) (fun c0 h=>
 ie h (fun c1 h=>
 be h fun x10 de h=>
 ie h (fun c2 g0=>by subst c2;exact (
 rr g0 [(4,eb c0),(1,eb c1),(2,.call (xI n de) [] [] []),(3,.eqv (R83.ax p2.fArgs))])) (fun c2 g0=>by subst c2;exact (
 rr g0 [(4,eb c0),(1,eb c1),(2,.call (xI n de) [] [] [])]))) (fun c1 h=>
 ie h (fun c2 h=>
 be h fun x15 fA h=>
 ie h (fun c3 h=>
 ie h (fun c4 h=>
 ie h (fun c5 h=>
 ie h (fun c6 h=>
 be h fun x42 ZH h=>
 rr h [(4,eb c0),(1,eb c1),(1,eb c2),(5,.call (xH n fA) [] [] []),(3,.eqv (R83.ax p2.fArgs)),(0,eb c3),(3,eb c4),(4,eb c5),(3,eb c6),(7,.call (xH n ZH) [] [] [])]) (fun c6 h=>
 rr h [(4,eb c0),(1,eb c1),(1,eb c2),(5,.call (xH n fA) [] [] []),(3,.eqv (R83.ax p2.fArgs)),(0,eb c3),(3,eb c4),(4,eb c5),(3,eb c6)])) (fun c5 h=>
 rr h [(4,eb c0),(1,eb c1),(1,eb c2),(5,.call (xH n fA) [] [] []),(3,.eqv (R83.ax p2.fArgs)),(0,eb c3),(3,eb c4),(4,eb c5)])) (fun c4 h=>
 rr h [(4,eb c0),(1,eb c1),(1,eb c2),(5,.call (xH n fA) [] [] []),(3,.eqv (R83.ax p2.fArgs)),(0,eb c3),(3,eb c4)])) (fun c3 h=>
 rr h [(4,eb c0),(1,eb c1),(1,eb c2),(5,.call (xH n fA) [] [] []),(3,.eqv (R83.ax p2.fArgs)),(0,eb c3)])) (fun c2 h=>
 ie h (fun c3 h=>
 ra (LZ jB n h) [(4,eb c0),(1,eb c1),(1,eb c2),(1,eb c3)]) (fun c3 h=>
 ie h (fun c4 h=>
 ra (LZ jB n h) [(4,eb c0),(1,eb c1),(1,eb c2),(1,eb c3),(1,eb c4)]) (fun c4 h=>
 ie h (fun c5 h=>
 ie h (fun c6 h=>
 rr h [(4,eb c0),(1,eb c1),(1,eb c2),(1,eb c3),(1,eb c4),(1,eb c5),(3,.eqv (R83.ax p2.fArgs)),(0,eb c6)]) (fun c6 h=>
 ra (LZ jB n h) [(4,eb c0),(1,eb c1),(1,eb c2),(1,eb c3),(1,eb c4),(1,eb c5),(3,.eqv (R83.ax p2.fArgs)),(0,eb c6)])) (fun c5 h=>
 rr h [(4,eb c0),(1,eb c1),(1,eb c2),(1,eb c3),(1,eb c4),(1,eb c5)]))))))
def xa:Nat->Wq0->Wq0->an->Option Bool
 |0,_,_,_=>none
 |n+1,bp,params1,p2=>Nb (xa n) n bp params1 p2
theorem RB:∀n:Nat,K3 ER na (xa n)
 |0=>fun _ _ _ _ h=>nz h
 |n+1=>fun _ _ _ _ h=>ca (X:=x105) (ahq (RB n) n h)
def abp (r:Int):AV:=.int .i64 r
def V1 (r:Int):List (Nat×Bx):= []
def x73:=fx E0 Tryz.f73 [] []
def A73:=Ax x73 abp V1
def C73:=Cx E0 73 abp V1
def Ua (bp params1:Wq0) (p2:an):LS:=⟨[(0,.slice 3 1 (bq bp)),(1,.slice 3 1 (bq params1)),(2,.agg (gO p2))],[]⟩
def SU (n:Nat) (bp params1:Wq0) (p2:an):Option Int:=
 (MI n bp).bind fun x4=>
 if !x4 then
 some 1
 else
 (MI n params1).bind fun x9=>
 if !x9 then
 some 1
 else
 (EN n p2 0).bind fun x14=>
 if decide (24<x14) then
 some 2
 else
 (xb n p2 8).bind fun x19=>
 if x19 then
 some 2
 else
 (xa n bp params1 p2).bind fun x25=>
 if !x25 then
 some 50
 else
 some 0
theorem ajK (n:Nat):K3 (A73 []) Ua (SU n):=fun bp params1 p2 r h=>
 be h fun x4 hx4 h=>
 ie h (fun c0 h=>
 rr h [(3,.call (mS n hx4) [] [] []),(0,eb c0)]) (fun c0 h=>
 be h fun x9 hx9 h=>
 ie h (fun c1 h=>
 rr h [(3,.call (mS n hx4) [] [] []),(0,eb c0),(2,.call (mS n hx9) [] [] []),(0,eb c1)]) (fun c1 h=>
 be h fun x14 fQ h=>
 ie h (fun c2 h=>
 rr h [(3,.call (mS n hx4) [] [] []),(0,eb c0),(2,.call (mS n hx9) [] [] []),(0,eb c1),(2,.call (BM n fQ) [] [] []),(0,eb c2)]) (fun c2 h=>
 be h fun x19 kF h=>
 ie h (fun c3 g0=>by subst c3;exact (
 rr g0 [(3,.call (mS n hx4) [] [] []),(0,eb c0),(2,.call (mS n hx9) [] [] []),(0,eb c1),(2,.call (BM n fQ) [] [] []),(0,eb c2),(2,.call (Gy n kF) [] [] [])])) (fun c3 g0=>by subst c3;exact (
 be g0 fun x25 ux g0=>
 ie g0 (fun c4 g0=>
 rr g0 [(3,.call (mS n hx4) [] [] []),(0,eb c0),(2,.call (mS n hx9) [] [] []),(0,eb c1),(2,.call (BM n fQ) [] [] []),(0,eb c2),(2,.call (Gy n kF) [] [] []),(4,.call (RB n ux) [] [] []),(0,eb c4)]) (fun c4 g0=>
 rr g0 [(3,.call (mS n hx4) [] [] []),(0,eb c0),(2,.call (mS n hx9) [] [] []),(0,eb c1),(2,.call (BM n fQ) [] [] []),(0,eb c2),(2,.call (Gy n kF) [] [] []),(4,.call (RB n ux) [] [] []),(0,eb c4)]))))))
def F73 (n:Nat) (bp params1:Wq0) (p2:an):Option Int:=SU n bp params1 p2
theorem ev73 (n:Nat):K3 C73 Ua (F73 n):=fun _ _ _ _ h=>ca (X:=x73) (ajK n h)
def abV (r:(an×aj)):AV:=.agg (gO r.1)
def Wx (r:(an×aj)):List (Nat×Bx):= [(0,.flat 74 (bI r.2))]
def x31:=fx E0 Tryz.f31 [0] [0]
def A31:=Ax x31 abV Wx
def C31:=Cx E0 31 abV Wx
def UH (c0:aj) (aY params2:Wq0) (dA:Int):LS:=⟨[(0,.loc 0 0),(1,.slice 3 1 (bq aY)),(2,.slice 3 1 (bq params2)),(3,.int .i64 dA)],[(0,.flat 74 (bI c0))]⟩
def Tm (n:Nat) (c0:aj) (aY params2:Wq0) (dA:Int):Option (an×aj):=
 (F72 n c0 aY params2 dA).bind fun x6=>
 (F73 n aY params2 x6.1).bind fun x13=>
 if x13==2 then
 (F72 n x6.2 aY params2 1).bind fun x19=>
 some (x19.1,x19.2)
 else
 some (x6.1,x6.2)
theorem akV (n:Nat):K4 (A31 []) UH (Tm n):=fun c0 aY params2 dA r h=>
 be h fun x6 hx6 h=>
 be h fun x13 bY h=>
 ie h (fun c0_ h=>
 be h fun x19 kF h=>
 rr h [(5,.call (Rt n hx6) [] [(0,0)] []),(5,.call (ev73 n bY) [] [] []),(0,eb c0_),(3,.call (Rt n kF) [] [(0,0)] [])]) (fun c0_ h=>
 rr h [(5,.call (Rt n hx6) [] [(0,0)] []),(5,.call (ev73 n bY) [] [] []),(0,eb c0_)])
def F31 (n:Nat) (c0:aj) (aY params2:Wq0) (dA:Int):Option (an×aj):=Tm n c0 aY params2 dA
theorem ev31 (n:Nat):K4 C31 UH (F31 n):=fun _ _ _ _ _ h=>ca (X:=x31) (akV n h)
end Go.Proofs.YtmealahmjddpcaaGreatDoor
end
