/- Texts that belong together. The first: Plain data in the machine's heap: values, boxes, what they read as. Definitions and first laws. -/
import Derived.Test.YtmealahmjddpcaaGreatDoorP4
set_option linter.all false
noncomputable section
namespace Go.Sim
section
inductive AV where
 |bool (b:Bool)
 |int (k:IntKind) (n:Int)
 |str (s:ByteArray)
 |slice (e:TypeId) (s:Nat) (rows:List (List AV))
 |sln (e:TypeId) (s:Nat) (rows:List (List AV))
 |slf (e:TypeId) (s:Nat) (rows:List (List AV))
 |slx (e:TypeId) (s:Nat) (rows:List (List AV))
 |imm (cs:List AV)
 |aR
 |cz
 |cA
 |cK
 |cg
 |agg (cs:List AV)
 |tup (vs:List AV)
 |fn (f:FuncId) (first cf:List AV)
 |ifc (t:TypeId) (x:AV)
 |loc (K off:Nat)
 |el (K s j f:Nat)
 |ms (K s lo n:Nat)
 |mp (K:Nat)
 |it (K:Nat)
 |undef
 deriving Inhabited
inductive Bx where
 |flat (e:TypeId) (cs:List AV)
 |rows (z:Bool) (e:TypeId) (s:Nat) (Q:List (List AV))
 |map (es:List (AV×AV))
 |iter (s:ByteArray) (pos:Nat)
 |hole (e:TypeId) (s:Nat) (Q:List (List AV)) (i:Nat) (x:AV)
 deriving Inhabited
structure Gb where
 ρ:Nat→Nat
 κ:Nat→Cp
 β:Nat→Bool
def Gb.no:Gb:=⟨fun _=>0,fun _=>.k 0,fun _=>false⟩
def su (e:TypeId) (n:Nat):Cp→Prop
 | .u e'=>e'=e
 | .k m=>n≤m
mutual
inductive VA (F:Hf):Gb→SV→AV→Prop
 |bool {g} (b):VA F g (.bool b) (.bool b)
 |int {g} (k n):VA F g (.int k (.lit n)) (.int k n)
 |str {g} (s):VA F g (.str s) (.str s)
 |jN {g} (e s):VA F g .aR (.slice e s [])
 |slice {g id off n c s rows e e' svs} (hF:cD (F id) off (n*s)=some (e',svs)) (hc:su e n c) (hn:n=rows.length) (hu:∀r∈rows,r.length=s) (hl:off+n*s≤svs.length) (h:VAs F .no ((svs.drop off).take (n*s)) rows.flatten):VA F g (.sl id off n c) (.slice e s rows)
 |mI {g} (e s):VA F g .aR (.slx e s [])
 |rR {g} (e s):VA F g .sle (.slx e s [])
 |slx {g id off n c s rows e e' svs} (hF:cD (F id) off (n*s)=some (e',svs)) (hc:su e n c) (hn:n=rows.length) (hu:∀r∈rows,r.length=s) (hl:off+n*s≤svs.length) (h:VAs F .no ((svs.drop off).take (n*s)) rows.flatten):VA F g (.sl id off n c) (.slx e s rows)
 |rS {g} (e s):VA F g .aR (.slf e s [])
 |slf {g id off n s rows e e' svs} (hF:cD (F id) off (n*s)=some (e',svs)) (hn:n=rows.length) (hu:∀r∈rows,r.length=s) (hl:off+n*s≤svs.length) (h:VAs F .no ((svs.drop off).take (n*s)) rows.flatten):VA F g (.sl id off n (.k n)) (.slf e s rows)
 |og {g} (e s):VA F g .aR (.sln e s [])
 |sln {g id off n c s rows e e' svs} (hF:cD (F id) off (n*s)=some (e',svs)) (hc:su e n c) (hn:n=rows.length) (hz:rows≠ []) (hu:∀r∈rows,r.length=s) (hl:off+n*s≤svs.length) (h:VAs F .no ((svs.drop off).take (n*s)) rows.flatten):VA F g (.sl id off n c) (.sln e s rows)
 |imm {g id off cs e svs} (hF:cD (F id) off cs.length=some (e,svs)) (hl:off+cs.length≤svs.length) (h:VAs F .no ((svs.drop off).take cs.length) cs):VA F g (.ptr id off) (.imm cs)
 |aR {g}:VA F g .aR .aR
 |cz {g}:VA F g .cz .cz
 |cA {g}:VA F g .cA .cA
 |cK {g}:VA F g .cK .cK
 |cg {g}:VA F g .cg .cg
 |agg {g cs xs} (h:VAs F g cs xs):VA F g (.agg cs) (.agg xs)
 |tup {g cs xs} (h:VAs F g cs xs):VA F g (.tup cs) (.tup xs)
 |fn {g} (f) {a c xs ys} (h1:VAs F g a xs) (h2:VAs F g c ys):VA F g (.fn (.func f) a c) (.fn f xs ys)
 |ifc {g} (t) {v x} (h:VA F g v x):VA F g (.ifc t v) (.ifc t x)
 |loc {g} (K off):VA F g (.ptr (g.ρ K) off) (.loc K off)
 |el {g K} (s j f) (hb:g.β K=true):VA F g (.ptr (g.ρ K) (j*s+f)) (.el K s j f)
 |msN {g K} (s) (hb:g.β K=false):VA F g .aR (.ms K s 0 0)
 |ms {g K} (s lo n) (hb:g.β K=true):VA F g (.sl (g.ρ K) (lo*s) n (kN (g.κ K) lo)) (.ms K s lo n)
 |msE {g K} (s lo) (hl:0<lo):VA F g .sle (.ms K s lo 0)
 |mp {g} (K):VA F g (.mp (g.ρ K)) (.mp K)
 |it {g} (K):VA F g (.ptr (g.ρ K) 0) (.it K)
 |undef {g} (v):VA F g v .undef
inductive VAs (F:Hf):Gb→List SV→List AV→Prop
 |nil {g}:VAs F g [] []
 |cons {g v x vs xs} (h:VA F g v x) (t:VAs F g vs xs):VAs F g (v::vs) (x::xs)
end
def Hle (F F':Hf):Prop:=∀id o,F id=some o→F' id=some o
theorem Hle.refl (F:Hf):Hle F F:=fun _ _ h=>h
theorem Hle.trans {a b c:Hf} (h:Hle a b) (k:Hle b c):Hle a c:=fun id o q=>k id o (h id o q)
theorem g4 {F F':Hf} (hF:Hle F F') {id off n:Nat} {p:TypeId×List SV} (q:cD (F id) off n=some p):cD (F' id) off n=some p:=by
 cases hf:F id with
 |none=>rw[hf] at q;cases q
 |some o=>rw[hF id o hf,←hf];exact q
theorem nY {F:Hf} {id off n:Nat} {p:TypeId×List SV} (q:cD (F id) off n=some p):∃o,F id=some o:=by
 cases hf:F id with
 |none=>rw[hf] at q;cases q
 |some o=>exact ⟨o,rfl⟩
theorem jv {o:Option SO} {off n:Nat} {e:TypeId} {svs:List SV} (h:o=some (.cells e svs)):cD o off n=some (e,svs):=by rw[h];rfl
theorem v7:∀{cs:List SV},(∀(j:Nat) (x:SV),cs[j]? =some x→isU x=false)→kY cs=true
 | [],_=>rfl
 |y::cs,h=>by
  show sel (isU y) false (kY cs)=true;rw[aC,if_neg (by rw[h 0 y rfl];decide)]
  exact v7 fun j x hx=>h (j+1) x hx
theorem kK {o:Option SO} {off n yR n':Nat} {p:TypeId×List SV} (h:cD o off n=some p) (h1:off≤yR) (h2:yR+n'≤off+n):cD o yR n'=some p:=by
 cases o with
 |none=>cases h
 |some x=>cases x with
  |ro cs=>
   obtain ⟨hd,hx⟩:=av (show sel (kY ((cs.drop off).take n)) (some (0,cs)) none=some p from h);show sel (kY ((cs.drop yR).take n')) (some (0,cs)) none=some p;rw[aC,if_pos (v7 fun j x hj=> ?_)]
   ·exact hx
   ·rw[List.getElem?_take] at hj;split at hj
    ·rw[List.getElem?_drop] at hj;refine uf hd (j:=yR-off+j) ?_;rw[List.getElem?_take,if_pos (by omega),List.getElem?_drop,show off+(yR-off+j)=yR+j by omega]
     exact hj
    ·cases hj
  |_=>exact h
variable {F F':Hf} {g g':Gb}
mutual
theorem VA.mono (hF:Hle F F'):∀{g v x},VA F g v x→VA F' g v x
 |_,_,_,.bool b=>.bool b
 |_,_,_,.int k n=>.int k n
 |_,_,_,.str s=>.str s
 |_,_,_,.jN e s=>.jN e s
 |_,_,_,.mI e s=>.mI e s
 |_,_,_,.rR e s=>.rR e s
 |_,_,_,.slx q hc hn hu hl h=>.slx (g4 hF q) hc hn hu hl (h.mono hF)
 |_,_,_,.rS e s=>.rS e s
 |_,_,_,.slf q hn hu hl h=>.slf (g4 hF q) hn hu hl (h.mono hF)
 |_,_,_,.slice q hc hn hu hl h=>.slice (g4 hF q) hc hn hu hl (h.mono hF)
 |_,_,_,.og e s=>.og e s
 |_,_,_,.sln q hc hn hz hu hl h=>.sln (g4 hF q) hc hn hz hu hl (h.mono hF)
 |_,_,_,.imm q hl h=>.imm (g4 hF q) hl (h.mono hF)
 |_,_,_,.aR=>.aR
 |_,_,_,.cz=>.cz
 |_,_,_,.cA=>.cA
 |_,_,_,.cK=>.cK
 |_,_,_,.cg=>.cg
 |_,_,_,.agg h=>.agg (h.mono hF)
 |_,_,_,.tup h=>.tup (h.mono hF)
 |_,_,_,.fn f h1 h2=>.fn f (h1.mono hF) (h2.mono hF)
 |_,_,_,.ifc t h=>.ifc t (h.mono hF)
 |_,_,_,.loc K off=>.loc K off
 |_,_,_,.el s j f hb=>.el s j f hb
 |_,_,_,.msN s hb=>.msN s hb
 |_,_,_,.ms s lo n hb=>.ms s lo n hb
 |_,_,_,.msE s lo hl=>.msE s lo hl
 |_,_,_,.mp K=>.mp K
 |_,_,_,.it K=>.it K
 |_,_,_,.undef v=>.undef v
theorem VAs.mono (hF:Hle F F'):∀{g v x},VAs F g v x→VAs F' g v x
 |_,_,_,.nil=>.nil
 |_,_,_,.cons h t=>.cons (h.mono hF) (t.mono hF)
end
mutual
def bW:AV→List Nat
 | .agg cs=>cI cs
 | .tup vs=>cI vs
 | .fn _ a c=>cI a++cI c
 | .ifc _ x=>bW x
 | .loc K _=> [K]
 | .el K _ _ _=> [K]
 | .ms K _ _ _=> [K]
 | .mp K=> [K]
 | .it K=> [K]
 |_=> []
def cI:List AV→List Nat
 | []=> []
 |x::l=>bW x++cI l
end
theorem VAs.length:∀{vs xs},VAs F g vs xs→vs.length=xs.length
 |_,_,.nil=>rfl
 |_,_,.cons _ t=>by simp[t.length]
theorem VAs.get:∀{vs xs},VAs F g vs xs→∀{j:Nat} {x:AV},xs[j]? =some x→∃v,vs[j]? =some v∧VA F g v x
 |_,_,.nil,_,_,h=>by simp at h
 |_,_,.cons h t,j,x,hx=>by
  cases j with
  |zero=>simp at hx;subst hx;exact ⟨_,rfl,h⟩
  |succ j=>simp at hx;obtain ⟨v,a,b⟩:=t.get hx;exact ⟨v,by simpa using a,b⟩
theorem VAs.append:∀{vs xs ws ys},VAs F g vs xs→VAs F g ws ys→VAs F g (vs++ws) (xs++ys)
 |_,_,_,_,.nil,k=>k
 |_,_,_,_,.cons h t,k=>.cons h (t.append k)
theorem VAs.drop:∀{vs xs} (n:Nat),VAs F g vs xs→VAs F g (vs.drop n) (xs.drop n)
 |_,_,0,h=>h
 |_,_,n+1,.nil=>by simpa using .nil
 |_,_,n+1,.cons _ t=>by simpa using t.drop n
theorem VAs.take:∀{vs xs} (n:Nat),VAs F g vs xs→VAs F g (vs.take n) (xs.take n)
 |_,_,0,_=>by simpa using .nil
 |_,_,n+1,.nil=>by simpa using .nil
 |_,_,n+1,.cons h t=>by simpa using .cons h (t.take n)
theorem VAs.bI {vs xs ws ys} (h:VAs F g vs xs) (k:VAs F g ws ys) (off:Nat):VAs F g (bI vs off ws) (xs.take off++ys++xs.drop (off+ys.length)):=by
 have:=((h.take off).append k).append (h.drop (off+ys.length));show VAs F g (vs.take off++ws++vs.drop (off+ws.length)) _;rw[k.length];exact this
def uH (e:TypeId) (s n:Nat) (len:Nat):Cp→Prop
 | .u e'=>e'=e∧n*s≤len
 | .k m=>n≤m∧len=m*s
theorem aet {e:TypeId} {s n len:Nat} {c:Cp} (hc:uH e s n len c):su e n c:=by
 cases c with
 |k m=>exact hc.1
 |u e'=>exact hc.1
theorem gj {e:TypeId} {s n len:Nat} {c:Cp} (hc:uH e s n len c):n*s≤len:=by
 cases c with
 |k m=>obtain ⟨c1,c2⟩:=hc;rw[c2];exact Nat.mul_le_mul_right _ c1
 |u e'=>obtain ⟨_,c2⟩:=hc;omega
inductive du (F:Hf) (g:Gb) (h:Hf) (K:Nat):Bx→List Nat→Prop
 |flat {e cs svs} (hh:h (g.ρ K)=some (.cells e svs)) (q:VAs F g svs cs):du F g h K (.flat e cs) [g.ρ K]
 |df {z e s} (hb:g.β K=false):du F g h K (.rows z e s []) []
 |rows {z e s Q svs} (hb:g.β K=true) (hh:h (g.ρ K)=some (.cells e svs)) (hz:z=true→Q≠ []) (hu:∀r∈Q,r.length=s) (hc:uH e s Q.length svs.length (g.κ K)) (q:VAs F .no (svs.take (Q.length*s)) Q.flatten):du F g h K (.rows z e s Q) [g.ρ K]
 |map {es ms c} (hh:h (g.ρ K)=some (.map ms c)) (hk:VAs F .no (ms.map (·.1)) (es.map (·.1))) (hv:VAs F .no (ms.map (·.2.1)) (es.map (·.2))):du F g h K (.map es) [g.ρ K]
 |iter {s pos} (hh:h (g.ρ K)=some (.gm s pos)):du F g h K (.iter s pos) [g.ρ K]
 |hole {e s Q i x svs v} (hb:g.β K=true) (hh:h (g.ρ K)=some (.cells e svs)) (hu:∀r∈Q,r.length=s) (hc:uH e s Q.length svs.length (g.κ K)) (q:VAs F .no (svs.take (Q.length*s)) Q.flatten) (hi:i<Q.length*s) (hv:svs[i]? =some v) (hx:VA F g v x):du F g h K (.hole e s Q i x) [g.ρ K]
theorem du.jE {h h':Hf} {K:Nat} {b:Bx} {fp:List Nat} (hF:Hle F F') (q:du F g h K b fp) (hk:∀i,i∈fp→h' i=h i):du F' g h' K b fp:=by
 cases q with
 |flat hh q=>exact .flat ((hk _ (by simp)).trans hh) (q.mono hF)
 |df hb=>exact .df hb
 |rows hb hh hz hu hc q=>exact .rows hb ((hk _ (by simp)).trans hh) hz hu hc (q.mono hF)
 |map hh q1 q2=>exact .map ((hk _ (by simp)).trans hh) (q1.mono hF) (q2.mono hF)
 |iter hh=>exact .iter ((hk _ (by simp)).trans hh)
 |hole hb hh hu hc q hi hv hx=>exact .hole hb ((hk _ (by simp)).trans hh) hu hc (q.mono hF) hi hv (hx.mono hF)
theorem du.there {h:Hf} {K:Nat} {b:Bx} {fp:List Nat} (q:du F g h K b fp):∀i∈fp,h i≠none:=by
 intro i hi;have key:∀{o:SO},h (g.ρ K)=some o→i∈ [g.ρ K]→h i≠none:=fun hh hi=>by rw[List.mem_singleton.1 hi,hh];simp
 cases q with
 |df hb=>cases hi
 |flat hh q=>exact key hh hi
 |rows hb hh hz hu hc q=>exact key hh hi
 |map hh q1 q2=>exact key hh hi
 |iter hh=>exact key hh hi
 |hole hb hh hu hc q hi' hv hx=>exact key hh hi
def iz (g g':Gb) (ks:List Nat):Prop:=∀k∈ks,g'.ρ k=g.ρ k∧g'.κ k=g.κ k∧g'.β k=g.β k
def kA (g g':Gb) (f:Nat→Nat) (ks:List Nat):Prop:=∀k∈ks,g'.ρ (f k)=g.ρ k∧g'.κ (f k)=g.κ k∧g'.β (f k)=g.β k
theorem kA.left {f:Nat→Nat} {a b:List Nat} (h:kA g g' f (a++b)):kA g g' f a:=fun k hk=>h k (List.mem_append_left _ hk)
theorem kA.right {f:Nat→Nat} {a b:List Nat} (h:kA g g' f (a++b)):kA g g' f b:=fun k hk=>h k (List.mem_append_right _ hk)
mutual
def kP (f:Nat→Nat):AV→AV
 | .agg cs=>.agg (ir f cs)
 | .tup vs=>.tup (ir f vs)
 | .fn i a c=>.fn i (ir f a) (ir f c)
 | .ifc t x=>.ifc t (kP f x)
 | .loc K off=>.loc (f K) off
 | .el K s j i=>.el (f K) s j i
 | .ms K s lo n=>.ms (f K) s lo n
 | .mp K=>.mp (f K)
 | .it K=>.it (f K)
 |x=>x
def ir (f:Nat→Nat):List AV→List AV
 | []=> []
 |x::l=>kP f x::ir f l
end
mutual
theorem VA.ren {f:Nat→Nat}:∀{v x},VA F g v x→kA g g' f (bW x)→VA F g' v (kP f x)
 |_,_,.bool b,_=>.bool b
 |_,_,.int k n,_=>.int k n
 |_,_,.str s,_=>.str s
 |_,_,.jN e s,_=>.jN e s
 |_,_,.mI e s,_=>.mI e s
 |_,_,.rR e s,_=>.rR e s
 |_,_,.slx q hc hn hu hl h,_=>.slx q hc hn hu hl h
 |_,_,.rS e s,_=>.rS e s
 |_,_,.slf q hn hu hl h,_=>.slf q hn hu hl h
 |_,_,.slice q hc hn hu hl h,_=>.slice q hc hn hu hl h
 |_,_,.og e s,_=>.og e s
 |_,_,.sln q hc hn hz hu hl h,_=>.sln q hc hn hz hu hl h
 |_,_,.imm q hl h,_=>.imm q hl h
 |_,_,.aR,_=>.aR
 |_,_,.cz,_=>.cz
 |_,_,.cA,_=>.cA
 |_,_,.cK,_=>.cK
 |_,_,.cg,_=>.cg
 |_,_,.agg h,k=>.agg (h.ren k)
 |_,_,.tup h,k=>.tup (h.ren k)
 |_,_,.fn i h1 h2,k=>.fn i (h1.ren (kA.left k)) (h2.ren (kA.right k))
 |_,_,.ifc t h,k=>.ifc t (h.ren k)
 |_,_,.loc K off,k=>by
  have:=(k K (by simp[bW])).1
  rw[←this];exact .loc (f K) off
 |_,_,.el (K:=K) s j i hb,k=>by
  obtain ⟨k1,_,k3⟩:=k K (by simp[bW])
  rw[←k1];exact .el s j i (k3.trans hb)
 |_,_,.msN (K:=K) s hb,k=>.msN s ((k K (by simp[bW])).2.2.trans hb)
 |_,_,.ms (K:=K) s lo n hb,k=>by
  obtain ⟨k1,k2,k3⟩:=k K (by simp[bW])
  rw[←k1,←k2];exact .ms s lo n (k3.trans hb)
 |_,_,.msE s lo hl,_=>.msE s lo hl
 |_,_,.mp K,k=>by
  have:=(k K (by simp[bW])).1
  rw[←this];exact .mp (f K)
 |_,_,.it K,k=>by
  have:=(k K (by simp[bW])).1
  rw[←this];exact .it (f K)
 |_,_,.undef v,_=>.undef v
theorem VAs.ren {f:Nat→Nat}:∀{v x},VAs F g v x→kA g g' f (cI x)→VAs F g' v (ir f x)
 |_,_,.nil,_=>.nil
 |_,_,.cons h t,k=>.cons (h.ren (kA.left k)) (t.ren (kA.right k))
end
mutual
theorem wO:∀x,kP (fun k=>k) x=x
 | .agg cs=>congrArg AV.agg (lC cs)
 | .tup cs=>congrArg AV.tup (lC cs)
 | .fn i a c=>by show AV.fn i (ir _ a) (ir _ c)=_;rw[lC a,lC c]
 | .ifc t x=>congrArg (AV.ifc t) (wO x)
 | .bool _| .int _ _| .str _| .slice _ _ _| .sln _ _ _| .slf _ _ _| .slx _ _ _| .imm _| .aR| .cz| .cA| .cK| .cg| .loc _ _| .el _ _ _ _| .ms _ _ _ _| .mp _| .it _| .undef=>rfl
theorem lC:∀x,ir (fun k=>k) x=x
 | []=>rfl
 |x::l=>by show kP _ x::ir _ l=_;rw[wO x,lC l]
end
theorem VA.gb {v x} (h:VA F g v x) (k:iz g g' (bW x)):VA F g' v x:=by
 have:=h.ren (g':=g') (f:=fun k=>k) k
 rwa[wO] at this
theorem VAs.gb {v x} (h:VAs F g v x) (k:iz g g' (cI x)):VAs F g' v x:=by
 have:=h.ren (g':=g') (f:=fun k=>k) k
 rwa[lC] at this
def Bx.keys:Bx→List Nat
 | .flat _ cs=>cI cs
 | .hole _ _ _ _ x=>bW x
 |_=> []
def Bx.ren (f:Nat→Nat):Bx→Bx
 | .flat e cs=>.flat e (ir f cs)
 | .hole e s Q i x=>.hole e s Q i (kP f x)
 |b=>b
theorem du.ren {h:Hf} {K:Nat} {b:Bx} {fp:List Nat} {f:Nat→Nat} (q:du F g h K b fp) (hK:kA g g' f [K]) (hk:kA g g' f b.keys):du F g' h (f K) (b.ren f) fp:=by
 obtain ⟨k1,k2,k3⟩:=hK K (by simp)
 cases q with
 |flat hh q=>rw[←k1] at hh ⊢;exact .flat hh (q.ren hk)
 |df hb=>exact .df (k3.trans hb)
 |rows hb hh hz hu hc q=>rw[←k1] at hh ⊢;rw[←k2] at hc;exact .rows (k3.trans hb) hh hz hu hc q
 |map hh q1 q2=>rw[←k1] at hh ⊢;exact .map hh q1 q2
 |iter hh=>rw[←k1] at hh ⊢;exact .iter hh
 |hole hb hh hu hc q hi hv hx=>rw[←k1] at hh ⊢;rw[←k2] at hc;exact .hole (k3.trans hb) hh hu hc q hi hv (hx.ren hk)
theorem Bx.afl:∀b:Bx,b.ren (fun k=>k)=b
 | .flat e cs=>congrArg (Bx.flat e) (lC cs)
 | .hole e s Q i x=>congrArg (Bx.hole e s Q i) (wO x)
 | .rows _ _ _ _| .map _| .iter _ _=>rfl
theorem du.gb {h:Hf} {K:Nat} {b:Bx} {fp:List Nat} (q:du F g h K b fp) (hK:iz g g' [K]) (hk:iz g g' b.keys):du F g' h K b fp:=by
 have:=q.ren (g':=g') (f:=fun k=>k) hK hk
 rwa[Bx.afl] at this
end
section
variable {F F':Hf} {g g':Gb}
structure LS where
 ts:List (Nat×AV)
 bs:List (Nat×Bx)
def lk {α:Type} (t:Nat) (l:List (Nat×α)):Option α:=List.rec none (fun p _ ih=>sel (Nat.beq t p.1) (some p.2) ih) l
theorem br {α:Type} (t k:Nat) (x:α) (l:List (Nat×α)):lk t ((k,x)::l)=if t=k then some x else lk t l:=by
 show sel (Nat.beq t k) (some x) (lk t l)=_;rw[aC];by_cases h:t=k
 ·rw[if_pos h,if_pos ((beq_iff _ _).2 h)]
 ·rw[if_neg h,if_neg (fun e=>h ((beq_iff _ _).1 e))]
theorem iK {α β:Type} (f:α→β) (t:Nat):∀l:List (Nat×α),lk t (l.map fun p=>(p.1,f p.2))=(lk t l).map f
 | []=>rfl
 |(k,x)::l=>by
  rw[List.map_cons,br,br,iK f t l];split<;>rfl
theorem nP {α:Type} {t:Nat} {x:α}:∀{l:List (Nat×α)},lk t l=some x→(t,x)∈l
 | [],h=>by cases h
 |(k,y)::l,h=>by
  rw[br] at h;split at h
  ·rename_i e;cases h;rw[e];exact List.mem_cons_self
  ·exact List.mem_cons_of_mem _ (nP h)
structure Bs where
 hp:Hf
 F:Hf
 g:Gb
 nx:Nat
 pk:Nat→Bool
 φ:Nat→List Nat
def Bs.ps (B:Bs) (k i:Nat):Prop:=B.pk k=true∧i∈B.φ k
structure Rel (B:Bs) (F:Hf) (g:Gb) (φ:Nat→List Nat) (s:LS) (tm:Tf) (h:Hs):Prop where
 tm:∀t x,lk t s.ts=some x→x≠ .undef→∃v,tm t=some v∧VA F g v x
 bx:∀k b,lk k s.bs=some b→du F g h.hp.get k b (φ k)
 dj:∀k k' b b',lk k s.bs=some b→lk k' s.bs=some b'→k≠k'→∀i∈φ k,i∉φ k'
 nf:∀k b,lk k s.bs=some b→∀i∈φ k,F i=none
 sub:Hle F h.hp.get
 bd:∀x,h.nx≤x→h.hp.get x=none
 nx:B.nx≤h.nx
 old:∀x,x<B.nx→(∀k,¬B.ps k x)→h.hp.get x=B.hp x
 f0:Hle B.F F
 fn:∀id o,F id=some o→B.F id=some o∨B.nx≤id
 jD:∀k b,lk k s.bs=some b→∀i∈φ k,B.ps k i∨B.nx≤i
 lg:∀x∈h.lg,(∃k,B.ps k x)∨B.nx≤x
 pin:∀k,B.pk k=true→iz B.g g [k]
variable {B:Bs} {φ:Nat→List Nat} {s s':LS} {tm:Tf} {h:Hs}
def LS.put (s:LS) (d:Nat) (x:AV):LS:=⟨(d,x)::s.ts,s.bs⟩
theorem Rel.put (r:Rel B F g φ s tm h) {d:Nat} {v:SV} {x:AV} {tm':Tf} (ht:∀t,tm' t=if t=d then some v else tm t) (hv:x≠ .undef→VA F g v x):Rel B F g φ (s.put d x) tm' h:=by
 refine {r with tm:=fun t y hy hn=> ?_}
 rw[show (s.put d x).ts=(d,x)::s.ts from rfl,br] at hy;rw[ht];split at hy
 ·rename_i e;cases hy;exact ⟨v,by rw[if_pos e],hv hn⟩
 ·rename_i e;rw[if_neg e];exact r.tm t y hy hn
theorem Rel.hlt (r:Rel B F g φ s tm h) {i:Nat} (hi:h.hp.get i≠none):i<h.nx:=by
 by_cases hx:i<h.nx
 ·exact hx
 ·exact absurd (r.bd i (by omega)) hi
theorem Rel.lt (r:Rel B F g φ s tm h) {k:Nat} {b:Bx} (hb:lk k s.bs=some b):∀i∈φ k,i<h.nx:=fun i hi=>r.hlt ((r.bx k b hb).there i hi)
theorem Rel.flt (r:Rel B F g φ s tm h) {i:Nat} {o:SO} (hf:F i=some o):i<h.nx:=r.hlt (by rw[r.sub i o hf];simp)
def WV (x y:AV):Prop:=y= .undef∨∀(F:Hf) (g:Gb) (v:SV),VA F g v x→VA F g v y
theorem WV.refl (x:AV):WV x x:=.inr fun _ _ _ h=>h
def WB (b b':Bx):Prop:=∀(F:Hf) (g:Gb) (h:Hf) (K:Nat) (fp:List Nat),du F g h K b fp→du F g h K b' fp
theorem WB.refl (b:Bx):WB b b:=fun _ _ _ _ _ h=>h
def oz (s s':LS):Prop:=(∀t y,lk t s'.ts=some y→y= .undef∨∃x,lk t s.ts=some x∧WV x y)∧∀k b',lk k s'.bs=some b'→∃b,lk k s.bs=some b∧WB b b'
theorem Rel.less (r:Rel B F g φ s tm h) (hw:oz s s'):Rel B F g φ s' tm h:=by
 obtain ⟨h1,h2⟩:=hw;refine {r with tm:=fun t y hy hn=> ?_,bx:=fun k b hb=> ?_,dj:=fun k k' b b' hb hb'=> ?_,nf:=fun k b hb=> ?_,jD:=fun k b hb=> ?_}
 ·rcases h1 t y hy with e|⟨x,hx,e|hw⟩
  ·exact absurd e hn
  ·exact absurd e hn
  ·by_cases hu:x= .undef
   ·subst hu;exact absurd (hw F .no (.bool true) (.undef _)) (by
     intro h4;have h1:=hw F g .aR (.undef _);cases y<;>first|exact hn rfl|(cases h1;done)|(cases h4;done))
   ·obtain ⟨v,v1,v2⟩:=r.tm t x hx hu;exact ⟨v,v1,hw F g v v2⟩
 ·obtain ⟨b0,hb0,w⟩:=h2 k b hb;exact w _ _ _ _ _ (r.bx k b0 hb0)
 ·obtain ⟨c,hc,_⟩:=h2 k b hb;obtain ⟨c',hc',_⟩:=h2 k' b' hb';exact r.dj k k' c c' hc hc'
 ·obtain ⟨b0,hb0,_⟩:=h2 k b hb;exact r.nf k b0 hb0
 ·obtain ⟨b0,hb0,_⟩:=h2 k b hb;exact r.jD k b0 hb0
def LS.free (s:LS) (K:Nat):Prop:=(∀t x,lk t s.ts=some x→K∉bW x)∧∀k b,k≠K→lk k s.bs=some b→K∉b.keys
def LS.set (s:LS) (K:Nat) (b:Bx):LS:=⟨s.ts,(K,b)::s.bs⟩
theorem Rel.chg (r:Rel B F g φ s tm h) {K:Nat} {b':Bx} {fo fp:List Nat} {h':Hs} (hfo:∀i∈fo,∃b,lk K s.bs=some b∧i∈φ K) (hfp:∀i∈fp,i∈fo∨(h.hp.get i=none∧B.nx≤i))
  (hh:∀x,x∉fo→x∉fp→h'.hp.get x=h.hp.get x) (hnx:h.nx≤h'.nx) (hbd:∀x,h'.nx≤x→h'.hp.get x=none) (hlg:∀x∈h'.lg,x∈h.lg∨x∈fo∨x∈fp) (hb':du F g' h'.hp.get K b' fp)
  (hg:g'=g∨(s.free K∧B.pk K=false∧∀k,k≠K→iz g g' [k])):Rel B F g' (fun k=>if k=K then fp else φ k) (s.set K b') tm h':=by
 have nfo:∀i∈fo,F i=none:=fun i hi=>by obtain ⟨b,hb,hi⟩:=hfo i hi;exact r.nf K b hb i hi
 have nfp:∀i∈fp,F i=none:=fun i hi=>(hfp i hi).elim (nfo i) fun hx=>by
  cases hf:F i with
  |none=>rfl
  |some o=>rw[r.sub i o hf] at hx;cases hx.1
 have mfo:∀i∈fo,B.ps K i∨B.nx≤i:=fun i hi=>by obtain ⟨b,hb,hi⟩:=hfo i hi;exact r.jD K b hb i hi
 have mfp:∀i∈fp,B.ps K i∨B.nx≤i:=fun i hi=>(hfp i hi).elim (mfo i) fun hx=>.inr hx.2
 have dfo:∀k b,k≠K→lk k s.bs=some b→∀i∈φ k,i∉fo:=fun k b hne hb i hi hc=>by
  obtain ⟨b2,hb2,hi2⟩:=hfo i hc;exact r.dj k K b b2 hb hb2 hne i hi hi2
 have dfp:∀k b,k≠K→lk k s.bs=some b→∀i∈φ k,i∉fp:=fun k b hne hb i hi hc=>(hfp i hc).elim (dfo k b hne hb i hi) fun hx=>(r.bx k b hb).there i hi hx.1
 have lkb:∀{k b1},lk k (s.set K b').bs=some b1→(k=K∧b1=b')∨(k≠K∧lk k s.bs=some b1):=fun {k b1} hk=>by
  rw[show (s.set K b').bs=(K,b')::s.bs from rfl,br] at hk;split at hk
  ·cases hk;exact .inl ⟨by assumption,rfl⟩
  ·exact .inr ⟨by assumption,hk⟩
 have gs:∀ks:List Nat,(s.free K→K∉ks)→iz g g' ks:=fun ks hk k hks=>by
  rcases hg with rfl|⟨h1,_,h2⟩
  ·exact ⟨rfl,rfl,rfl⟩
  ·exact h2 k (fun e=>hk h1 (e ▸ hks)) k (by simp)
 refine ⟨fun t x hx hn=> ?_,fun k b hb=> ?_,fun k k' b b2 hb hb2 hne i hi=> ?_,fun k b hb i hi=> ?_,fun i o ho=> ?_,hbd,Nat.le_trans r.nx hnx,fun x hx hp=> ?_,r.f0,r.fn,fun k b hb i hi=> ?_,fun x hx=> ?_,fun k hk=> ?_⟩
 ·obtain ⟨v,v1,v2⟩:=r.tm t x hx hn;exact ⟨v,v1,v2.gb (gs _ fun hf=>hf.1 t x hx)⟩
 ·rcases lkb hb with ⟨rfl,rfl⟩|⟨hne,hb⟩
  ·rw[if_pos rfl];exact hb'
  ·rw[if_neg hne];refine du.jE (Hle.refl F) ((r.bx k b hb).gb (gs _ fun _=>by simpa using Ne.symm hne) (gs _ fun hf=>hf.2 k b hne hb)) fun i hi=>hh i (dfo k b hne hb i hi) (dfp k b hne hb i hi)
 ·rcases lkb hb with ⟨e1,_⟩|⟨n1,c1⟩<;>rcases lkb hb2 with ⟨e2,_⟩|⟨n2,c2⟩
  ·exact absurd (e1.trans e2.symm) hne
  ·rw[if_pos e1] at hi;rw[if_neg n2];exact fun hc=>dfp k' b2 n2 c2 i hc hi
  ·rw[if_neg n1] at hi;rw[if_pos e2];exact dfp k b n1 c1 i hi
  ·rw[if_neg n1] at hi;rw[if_neg n2];exact r.dj k k' b b2 c1 c2 hne i hi
 ·rcases lkb hb with ⟨rfl,rfl⟩|⟨n1,hb⟩
  ·rw[if_pos rfl] at hi;exact nfp i hi
  ·rw[if_neg n1] at hi;exact r.nf k b hb i hi
 ·rw[hh i (fun hc=>by rw[nfo i hc] at ho;cases ho) (fun hc=>by rw[nfp i hc] at ho;cases ho)]
  exact r.sub i o ho
 ·rw[hh x (fun hc=>(mfo x hc).elim (hp K) (by omega)) (fun hc=>(mfp x hc).elim (hp K) (by omega))]
  exact r.old x hx hp
 ·rcases lkb hb with ⟨rfl,rfl⟩|⟨n1,hb⟩
  ·rw[if_pos rfl] at hi;exact mfp i hi
  ·rw[if_neg n1] at hi;exact r.jD k b hb i hi
 ·rcases hlg x hx with hx|hx|hx
  ·exact r.lg x hx
  ·exact (mfo x hx).elim (fun hp=>.inl ⟨K,hp⟩) .inr
  ·exact (mfp x hx).elim (fun hp=>.inl ⟨K,hp⟩) .inr
 ·rcases hg with rfl|⟨_,h1,h2⟩
  ·exact r.pin k hk
  ·have hne:k≠K:=fun e=>by rw[e,h1] at hk;cases hk
   intro j hj;obtain ⟨a1,a2,a3⟩:=r.pin k hk j hj;have ej:j=k:=by simpa using hj
   obtain ⟨c1,c2,c3⟩:=h2 k hne j hj;exact ⟨c1.trans a1,c2.trans a2,c3.trans a3⟩
end
section
variable {F F':Hf} {g g':Gb} {B:Bs} {φ:Nat→List Nat} {s s':LS} {tm:Tf} {h:Hs} {hp:Hf}
mutual
def vO (K:Nat) (D:AV) (L:Nat→AV):AV→AV
 | .ms k s lo n=>sel (Nat.beq k K) (sel (Nat.beq lo 0) D .undef) (.ms k s lo n)
 | .loc k off=>sel (Nat.beq k K) (L off) (.loc k off)
 | .el k s j f=>sel (Nat.beq k K) .undef (.el k s j f)
 | .mp k=>sel (Nat.beq k K) .undef (.mp k)
 | .it k=>sel (Nat.beq k K) .undef (.it k)
 | .agg cs=>.agg (mn K D L cs)
 | .tup cs=>.tup (mn K D L cs)
 | .fn i a c=>.fn i (mn K D L a) (mn K D L c)
 | .ifc t x=>.ifc t (vO K D L x)
 |x=>x
def mn (K:Nat) (D:AV) (L:Nat→AV):List AV→List AV
 | []=> []
 |x::l=>vO K D L x::mn K D L l
end
mutual
def Dq (K:Nat):AV→List (Nat×Nat)
 | .ms k s lo n=>sel (Nat.beq k K) (sel (Nat.beq lo 0) [(s,n)] []) []
 | .agg cs=>oK K cs
 | .tup cs=>oK K cs
 | .fn _ a c=>oK K a++oK K c
 | .ifc _ x=>Dq K x
 |_=> []
def oK (K:Nat):List AV→List (Nat×Nat)
 | []=> []
 |x::l=>Dq K x++oK K l
end
structure Eh (F F':Hf) (g:Gb) (K:Nat) (D:AV) (L:Nat→AV) (s m:Nat):Prop where
 le:Hle F F'
 ms:∀v,VA F g v (.ms K s 0 m)→VA F' g v D
 loc:∀v off,VA F g v (.loc K off)→VA F' g v (L off)
mutual
theorem VA.frz {K:Nat} {D:AV} {L:Nat→AV} {s m:Nat} (z:Eh F F' g K D L s m):∀{x:AV} {v:SV},VA F g v x→(∀q∈Dq K x,q=(s,m))→VA F' g v (vO K D L x)
 | .ms k s' lo n,v,hv,ho=>by
  show VA F' g v (sel (Nat.beq k K) (sel (Nat.beq lo 0) D .undef) (.ms k s' lo n));rw[aC,aC];split
  ·rename_i e;obtain rfl:=(beq_iff _ _).1 e;split
   ·rename_i e;obtain rfl:=(beq_iff _ _).1 e;have:=ho (s',n) (by
     show (s',n)∈sel (Nat.beq k k) (sel (Nat.beq 0 0) [(s',n)] []) [];rw[show Nat.beq k k=true from (beq_iff _ _).2 rfl];exact List.mem_singleton.2 rfl)
    cases this;exact z.ms v hv
   ·exact .undef v
  ·exact hv.mono z.le
 | .loc k off,v,hv,_=>by
  show VA F' g v (sel (Nat.beq k K) (L off) (.loc k off));rw[aC];split
  ·rename_i e;obtain rfl:=(beq_iff _ _).1 e;exact z.loc v off hv
  ·exact hv.mono z.le
 | .el k _ _ _,v,hv,_=>by
  show VA F' g v (sel (Nat.beq k K) .undef (.el k _ _ _));rw[aC];split
  ·exact .undef v
  ·exact hv.mono z.le
 | .mp k,v,hv,_=>by
  show VA F' g v (sel (Nat.beq k K) .undef (.mp k));rw[aC];split
  ·exact .undef v
  ·exact hv.mono z.le
 | .it k,v,hv,_=>by
  show VA F' g v (sel (Nat.beq k K) .undef (.it k));rw[aC];split
  ·exact .undef v
  ·exact hv.mono z.le
 | .agg cs,_,hv,ho=>by cases hv with|agg h=>exact .agg (VAs.frz z h ho)
 | .tup cs,_,hv,ho=>by cases hv with|tup h=>exact .tup (VAs.frz z h ho)
 | .fn i a c,_,hv,ho=>by
  cases hv with|fn _ h1 h2=>
   exact .fn i (VAs.frz z h1 fun q hq=>ho q (List.mem_append_left _ hq)) (VAs.frz z h2 fun q hq=>ho q (List.mem_append_right _ hq))
 | .ifc t x,_,hv,ho=>by cases hv with|ifc _ h=>exact .ifc t (VA.frz z h ho)
 | .bool _,_,hv,_| .int _ _,_,hv,_| .str _,_,hv,_| .slice _ _ _,_,hv,_| .sln _ _ _,_,hv,_| .slf _ _ _,_,hv,_| .slx _ _ _,_,hv,_| .imm _,_,hv,_| .aR,_,hv,_| .cz,_,hv,_| .cA,_,hv,_| .cK,_,hv,_| .cg,_,hv,_| .undef,_,hv,_=>hv.mono z.le
theorem VAs.frz {K:Nat} {D:AV} {L:Nat→AV} {s m:Nat} (z:Eh F F' g K D L s m):∀{xs:List AV} {vs:List SV},VAs F g vs xs→(∀q∈oK K xs,q=(s,m))→VAs F' g vs (mn K D L xs)
 | [],_,hv,_=>by cases hv;exact .nil
 |x::l,_,hv,ho=>by
  cases hv with|cons h t=>
   exact .cons (VA.frz z h fun q hq=>ho q (List.mem_append_left _ hq)) (VAs.frz z t fun q hq=>ho q (List.mem_append_right _ hq))
end
def cH {α:Type} (K:Nat):List (Nat×α)→List (Nat×α)
 | []=> []
 |p::l=>sel (Nat.beq p.1 K) (cH K l) (p::cH K l)
theorem er {α:Type} (K k:Nat):∀l:List (Nat×α),lk k (cH K l)=if k=K then none else lk k l
 | []=>by split<;>rfl
 |(j,x)::l=>by
  show lk k (sel (Nat.beq j K) (cH K l) ((j,x)::cH K l))=_;rw[aC];split
  ·rename_i e;obtain rfl:=(beq_iff _ _).1 e;rw[er j k l,br];split<;>rfl
  ·rename_i e;have hj:j≠K:=fun c=>e ((beq_iff _ _).2 c)
   rw[br,br,er K k l];by_cases hk:k=j
   ·rw[if_pos hk,if_pos hk,if_neg (fun c=>hj (hk ▸ c))]
   ·rw[if_neg hk,if_neg hk]
def Bx.frz (K:Nat) (D:AV) (L:Nat→AV):Bx→Bx
 | .flat e cs=>.flat e (mn K D L cs)
 | .hole e s Q i x=>.hole e s Q i (vO K D L x)
 |b=>b
def Bx.occ (K:Nat):Bx→List (Nat×Nat)
 | .flat _ cs=>oK K cs
 | .hole _ _ _ _ x=>Dq K x
 |_=> []
def LS.frz (s:LS) (K:Nat) (D:AV) (L:Nat→AV):LS:=⟨s.ts.map fun p=>(p.1,vO K D L p.2),(cH K s.bs).map fun p=>(p.1,Bx.frz K D L p.2)⟩
def yS (K:Nat):List (Nat×AV)→List (Nat×Nat)
 | []=> []
 |p::l=>Dq K p.2++yS K l
def rX (K:Nat):List (Nat×Bx)→List (Nat×Nat)
 | []=> []
 |p::l=>p.2.occ K++rX K l
theorem JA {K t:Nat} {x:AV}:∀{l:List (Nat×AV)},(t,x)∈l→∀q∈Dq K x,q∈yS K l
 |p::l,h,q,hq=>by
  rcases List.mem_cons.1 h with rfl|h
  ·exact List.mem_append_left _ hq
  ·exact List.mem_append_right _ (JA h q hq)
theorem JC {K t:Nat} {x:Bx}:∀{l:List (Nat×Bx)},(t,x)∈l→∀q∈x.occ K,q∈rX K l
 |p::l,h,q,hq=>by
  rcases List.mem_cons.1 h with rfl|h
  ·exact List.mem_append_left _ hq
  ·exact List.mem_append_right _ (JC h q hq)
theorem Rel.frz (r:Rel B F g φ s tm h) {K:Nat} {b:Bx} {D:AV} {L:Nat→AV} {sz m:Nat} (hb:lk K s.bs=some b) (hp:B.pk K=false) (ho:∀q∈yS K s.ts++rX K s.bs,q=(sz,m))
  (hz:∀F',Hle F F'→(∀i∈φ K,F' i=h.hp.get i)→du F g h.hp.get K b (φ K)→Eh F F' g K D L sz m):∃F',Hle F F'∧Rel B F' g φ (s.frz K D L) tm h:=by
 let F':Hf:=fun i=>if i∈φ K then h.hp.get i else F i
 have hF:Hle F F':=fun id o ho=>by
  show (if id∈φ K then h.hp.get id else F id)=some o
  split
  ·exact r.sub id o ho
  ·exact ho
 have z:=hz F' hF (fun i hi=>if_pos hi) (r.bx K b hb)
 have hm:∀i∈φ K,B.nx≤i:=fun i hi=>(r.jD K b hb i hi).elim (fun c=>by have:=c.1;rw[hp] at this;cases this) fun c=>c
 have back:∀{k b'},lk k (s.frz K D L).bs=some b'→k≠K∧∃b0,lk k s.bs=some b0∧b'=Bx.frz K D L b0:=fun {k b'} hk=>by
  rw[show (s.frz K D L).bs=(cH K s.bs).map fun p=>(p.1,Bx.frz K D L p.2) from rfl,iK,er] at hk
  split at hk
  ·cases hk
  ·rename_i hne;obtain ⟨b0,h0,rfl⟩:=Option.map_eq_some_iff.1 hk;exact ⟨hne,b0,h0,rfl⟩
 refine ⟨F',hF,fun t y hy hn=> ?_,fun k b' hk=> ?_,fun k k' b1 b2 h1 h2 hne=> ?_,fun k b' hk i hi=> ?_,fun i o hi=> ?_,r.bd,r.nx,r.old,r.f0.trans hF,fun i o hi=> ?_,fun k b' hk=> ?_,r.lg,r.pin⟩
 ·rw[show (s.frz K D L).ts=s.ts.map fun p=>(p.1,vO K D L p.2) from rfl,iK] at hy
  obtain ⟨x,hx,rfl⟩:=Option.map_eq_some_iff.1 hy;by_cases hu:x= .undef
  ·subst hu;exact absurd rfl hn
  ·obtain ⟨v,v1,v2⟩:=r.tm t x hx hu;exact ⟨v,v1,v2.frz z fun q hq=>ho q (List.mem_append_left _ (JA (nP hx) q hq))⟩
 ·obtain ⟨hne,b0,h0,rfl⟩:=back hk;have hq:=r.bx k b0 h0;have hoc:∀q∈b0.occ K,q=(sz,m):=fun q hq=>ho q (List.mem_append_right _ (JC (nP h0) q hq))
  generalize φ k=fp at hq ⊢;cases hq with
  |flat hh q=>exact .flat hh (q.frz z hoc)
  |df hb=>exact .df hb
  |rows hb hh hz hu hc q=>exact .rows hb hh hz hu hc (q.mono hF)
  |map hh q1 q2=>exact .map hh (q1.mono hF) (q2.mono hF)
  |iter hh=>exact .iter hh
  |hole hb hh hu hc q hi hv hx=>exact .hole hb hh hu hc (q.mono hF) hi hv (hx.frz z hoc)
 ·obtain ⟨_,c1,d1,_⟩:=back h1;obtain ⟨_,c2,d2,_⟩:=back h2;exact r.dj k k' c1 c2 d1 d2 hne
 ·obtain ⟨hne,b0,h0,rfl⟩:=back hk;show (if i∈φ K then h.hp.get i else F i)=none
  rw[if_neg (r.dj k K b0 b h0 hb hne i hi)];exact r.nf k b0 h0 i hi
 ·have hi:(if i∈φ K then h.hp.get i else F i)=some o:=hi
  split at hi
  ·exact hi
  ·exact r.sub i o hi
 ·have hi:(if i∈φ K then h.hp.get i else F i)=some o:=hi
  split at hi
  ·rename_i hc;exact .inr (hm i hc)
  ·exact r.fn i o hi
 ·obtain ⟨_,b0,h0,_⟩:=back hk;exact r.jD k b0 h0
def oq:Bx→AV
 | .rows true e s Q=>.sln e s Q
 | .rows false e s Q=>.slice e s Q
 |_=>.undef
def Zv:Bx→Nat→AV
 | .flat _ cs,off=>sel (Nat.ble off cs.length) (.imm (cs.drop off)) .undef
 |_,_=>.undef
def QN:Bx→Nat×Nat
 | .rows _ _ s Q=>(s,Q.length)
 |_=>(0,0)
def gf:Bx→Bool
 | .flat _ cs=>(cI cs).isEmpty
 |_=>true
theorem sS {K:Nat} {b:Bx} {fp:List Nat} (hF:Hle F F') (hk:gf b=true) (hi:∀i∈fp,F' i=hp i) (q:du F g hp K b fp):Eh F F' g K (oq b) (Zv b) (QN b).1 (QN b).2:=by
 refine ⟨hF,fun v hv=> ?_,fun v off hv=> ?_⟩
 ·cases q with
  |flat|map|iter|hole=>exact .undef v
  | @df z e s hb=>
   have hv:VA F g v (.ms K s 0 0):=hv;cases hv with
   |msN=>cases z;exact .jN e s;exact .og e s
   |msE _ _ h0=>cases h0
   |ms _ _ _ hb'=>rw[hb] at hb';cases hb'
  | @rows z e s Q svs hb hh hz hu hc q=>
   have hv:VA F g v (.ms K s 0 Q.length):=hv;have hl:=gj hc;generalize hm:Q.length=m at hv;cases hv with
   |msN s hb'=>rw[hb] at hb';cases hb'
   |msE _ _ h0=>cases h0
   |ms _ _ _ hb'=>
    subst hm;have hF0:=(hi (g.ρ K) (by simp)).trans hh
    have hct:su e Q.length (kN (g.κ K) 0):=by have:=aet hc;cases hκ:g.κ K<;>rw[hκ] at this<;>exact this
    rw[Nat.zero_mul];cases z
    ·exact .slice (jv hF0) hct rfl hu (by omega) (by rw[List.drop_zero];exact q.mono hF)
    ·exact .sln (jv hF0) hct rfl (hz rfl) hu (by omega) (by rw[List.drop_zero];exact q.mono hF)
 ·cases q with
  |df|rows|map|iter|hole=>exact .undef v
  | @flat e cs svs hh q=>
   show VA F' g v (sel (Nat.ble off cs.length) (.imm (cs.drop off)) .undef);rw[aC];split
   ·rename_i hle;have hle:off≤cs.length:=Nat.le_of_ble_eq_true hle;cases hv;have hk:(cI cs).isEmpty=true:=hk;have q0:VAs F .no svs cs:=q.gb (fun k hk'=>by rw[List.isEmpty_iff.1 hk] at hk';cases hk')
    refine .imm (jv ((hi (g.ρ K) (by simp)).trans hh)) (by rw[List.length_drop,q.length];omega) ?_
    have:=(q0.mono hF).drop off;rw[←this.length,List.take_length];exact this
   ·exact .undef v
end
section
variable {F F':Hf} {g g':Gb} {B:Bs} {φ:Nat→List Nat} {s s' s1:LS} {tm:Tf} {h:Hs} {hp:Hf} {E:Env} {nt:Nat} {all l:List Oper}
def gY (E:Env) (nt:Nat) (B:Bs) (all l:List Oper) (s s':LS):Prop:=
 ∀(F:Hf) (g:Gb) (φ:Nat→List Nat) (tm:Tr SV) (h:Hs),Rel B F g φ s tm.get h→∃F' g' φ' tm' h',Rel B F' g' φ' s' (Tr.get tm') h'∧bz E (.ops nt all l tm [] h) (.code .normal tm' [] h')
def LS.aY (s:LS) (d:Option Nat) (x:AV):LS:= @Option.rec Nat (fun _=>LS) s (fun d=>s.put d x) d
theorem Rel.aY {tm:Tr SV} (r:Rel B F g φ s tm.get h) {d:Option Nat} {v:SV} {x:AV} (hv:x≠ .undef→VA F g v x):Rel B F g φ (s.aY d x) (aY tm d v).get h:=by
 cases d with
 |none=>exact r
 |some d=>exact r.put (fun t=>Tr.bR _ _ _ _) hv
theorem gY.nil:gY E nt B all [] s s:=fun F g φ tm h r=>⟨F,g,φ,tm,h,r,.afp⟩
mutual
def D7:Value→AV
 | .bool b=>.bool b
 | .int k n=>.int k n
 | .string s=>.str s
 | .pointer none=>.cz
 | .slice none 0 0=>.aR
 | .map none=>.cA
 | .nilFunc=>.cK
 | .nilIface=>.cg
 | .agg ⟨cs⟩=>sel (cs.all Value.oneCell') (.agg (qt cs)) .undef
 | .tuple ⟨cs⟩=>.tup (qt cs)
 |_=>.undef
def qt:List Value→List AV
 | []=> []
 |v::vs=>D7 v::qt vs
end
mutual
theorem KN:∀(v:Value),VA F g (kJ v) (D7 v)
 | .bool b=>.bool b
 | .int k n=>.int k n
 | .string s=>.str s
 | .pointer none=>.cz
 | .slice none 0 0=>.aR
 | .map none=>.cA
 | .nilFunc=>.cK
 | .nilIface=>.cg
 | .agg ⟨cs⟩=>by
  show VA F g (sel (cs.all Value.oneCell') (.agg (ig cs)) .undef) (sel (cs.all Value.oneCell') (.agg (qt cs)) .undef);rw[aC,aC];split
  ·exact .agg (v9 cs)
  ·exact .undef _
 | .tuple ⟨cs⟩=>.tup (v9 cs)
 | .pointer (some _)=>.undef _
 | .slice (some _) _ _=>.undef _
 | .slice none 0 (_+1)=>.undef _
 | .slice none (_+1) _=>.undef _
 | .map (some _)=>.undef _
 | .func _ _ _=>.undef _
 | .iface _ _=>.undef _
 | .float _ _=>.undef _
 | .complex _ _ _=>.undef _
 | .chan _=>.undef _
theorem v9:∀(vs:List Value),VAs F g (ig vs) (qt vs)
 | []=>.nil
 |v::vs=>.cons (KN v) (v9 vs)
end
def qR (o:Option AV):AV:= @Option.rec AV (fun _=>AV) .undef (fun x=>x) o
def aJ (ts:List (Nat×AV)):Operand→AV
 | .tmp t=>qR (lk t ts)
 | .const v=>D7 v
 | .global _=>.undef
 | .func f=>.fn f [] []
theorem Rel.val (r:Rel B F g φ s tm h) {x:Operand} {y:AV} (he:aJ s.ts x=y) (hx:y≠ .undef):∃v,aI tm x=some v∧VA F g v y:=by
 subst he;cases x with
 |tmp t=>
  have hx:qR (lk t s.ts)≠ .undef:=hx;show ∃v,tm t=some v∧VA F g v (qR (lk t s.ts));cases hl:lk t s.ts with
  |none=>rw[hl] at hx;exact absurd rfl hx
  |some y=>rw[hl] at hx;exact r.tm t y hl hx
 |const v=>exact ⟨_,rfl,KN v⟩
 |global n=>exact absurd rfl hx
 |func f=>exact ⟨_,rfl,.fn f .nil .nil⟩
def fQ (ts:List (Nat×AV)):List Operand→List AV
 | []=> []
 |x::l=>aJ ts x::fQ ts l
def pE:AV→Bool
 | .undef=>true
 |_=>false
theorem AO {x:AV} (h:pE x=false):x≠ .undef:=fun e=>by subst e;cases h
def eR:List AV→Bool
 | []=>true
 |x::l=>sel (pE x) false (eR l)
theorem vu {x:AV} {l:List AV} (h:eR (x::l)=true):x≠ .undef∧eR l=true:=by
 have h:sel (pE x) false (eR l)=true:=h;cases hx:pE x with
 |true=>rw[hx] at h;cases h
 |false=>rw[hx] at h;exact ⟨AO hx,h⟩
theorem Rel.bF (r:Rel B F g φ s tm h):∀{xs:List Operand},eR (fQ s.ts xs)=true→∃vs,bF tm xs=some vs∧VAs F g vs (fQ s.ts xs)
 | [],_=>⟨[],rfl,.nil⟩
 |x::l,hu=>by
  obtain ⟨u1,u2⟩:=vu (x:=aJ s.ts x) (l:=fQ s.ts l) hu;obtain ⟨v,h1,h2⟩:=r.val rfl u1;obtain ⟨vs,h3,h4⟩:=r.bF (xs:=l) u2;refine ⟨v::vs,?_,.cons h2 h4⟩;show aF (aI tm x) (Go.Sim.bF tm l) (fun v l=>some (v::l))=_
  rw[h1,h3];rfl
def zL (want:Bool):AV→Option Bool
 | .bool b=>some (b==want)
 | .tup _=>some false
 |_=>none
def jy (all:List Oper) (p:Oper) (ts:List (Nat×AV)):Option Bool:= @Option.rec (Nat×Bool) (fun _=>Option Bool) (some true) (fun q=> @Option.rec Nat (fun _=>Option Bool) (some false) (fun t=>zL q.2 (qR (lk t ts))) (pX all q.1)) p.guard
theorem pn {tm:Tr SV} (r:Rel B F g φ s tm.get h) {p:Oper} {b:Bool} (hw:jy all p s.ts=some b):bG all p tm.get=some b:=by
 unfold jy at hw;unfold bG;cases hg:p.guard with
 |none=>rw[hg] at hw;exact hw
 |some q=>
  rw[hg] at hw;show lQ all tm.get q.1 q.2=some b;unfold lQ;have hw: @Option.rec Nat (fun _=>Option Bool) (some false) (fun t=>zL q.2 (qR (lk t s.ts))) (pX all q.1)=some b:=hw
  cases hd:pX all q.1 with
  |none=>rw[hd] at hw;exact hw
  |some t=>
   rw[hd] at hw;have hw:zL q.2 (qR (lk t s.ts))=some b:=hw;show ai (tm.get t) (OQ q.2)=some b;cases hl:lk t s.ts with
   |none=>rw[hl] at hw;cases hw
   |some y=>
    rw[hl] at hw;have hw:zL q.2 y=some b:=hw;obtain ⟨v,v1,v2⟩:=r.tm t y hl (fun e=>by rw[e] at hw;cases hw)
    rw[v1];cases y<;>first|(cases hw;done)|skip
    ·cases v2;exact hw
    ·cases v2;exact hw
def Upd (h:Hs) (us:List Up) (new:Nat) (h':Hs):Prop:=(∀y,h'.hp.get y=(h.ups us).hp.get y)∧h.nx≤h'.nx∧new<h'.nx∧∀y∈h'.lg,y∈(h.ups us).lg
def Gb.at (g:Gb) (K id:Nat) (c:Cp):Gb:=⟨fun k=>if k=K then id else g.ρ k,fun k=>if k=K then c else g.κ k,fun k=>if k=K then true else g.β k⟩
def D8:SV→Cp
 | .sl _ _ _ c=>c
 |_=>.k 0
def dM (new:Nat) (us:List Up):Bool:=us.any fun u=>Nat.beq u.1 new
abbrev WK:=Option (Nat×Bool)
def qw (g:Gb) (W:WK) (new:Nat) (us:List Up) (v:SV):Gb:=
 match W with
 |none=>g
 |some q=>if dM new us=true then g.at q.1 new (D8 v) else g
def oY (φ:Nat→List Nat) (W:WK) (new:Nat) (us:List Up):Nat→List Nat:=
 match W with
 |none=>φ
 |some q=>if dM new us=true then fun k=>if k=q.1 then [new] else φ k else φ
structure aP (E:Env) (B:Bs) (op:Op) (s s1:LS) (x:AV) (W:WK):Prop where
 go:∀{F:Hf} {g:Gb} {φ:Nat→List Nat} {tm:Tf} {h:Hs} {new:Nat},Rel B F g φ s tm h→h.hp.get new=none→B.nx≤new→∃v us,opA E op tm h.hp.get new=some (v,us)∧VA F (qw g W new us v) v x∧(∀h',Upd h us new h'∨(us= []∧h'=h)→Rel B F (qw g W new us v) (oY φ W new us) s1 tm h')∧
  (∀u∈us,u.1=new∨∃K b,W=some (K,false)∧lk K s.bs=some b∧u.1∈φ K)∧(∀k b',lk k s1.bs=some b'→(∃b,lk k s.bs=some b)∨(dM new us=true∧∃l,W=some (k,l)))∧∀k,((∃b,lk k s.bs=some b)∨∃l,W=some (k,l))→∃b',lk k s1.bs=some b'
def sF (op:Op):Bool:=
 match dx op,lX op,kG op,mb op with
 |none,none,none,none=>true
 |_,_,_,_=>false
theorem Pw {op:Op} (h:sF op=true):dx op=none∧lX op=none∧kG op=none∧mb op=none:=by
 unfold sF at h;split at h
 ·rename_i h1 h2 h3 h4;exact ⟨h1,h2,h3,h4⟩
 ·cases h
theorem aeK {us:List Up}:Upd h us h.nx (h.fin us)∨(us= []∧h.fin us=h):=by
 cases us with
 |nil=>exact .inr ⟨rfl,rfl⟩
 |cons u us=>
  have hn:∀(us:List Up) (h:Hs),(h.ups us).nx=h.nx:=fun us=>by
   induction us with
   |nil=>exact fun _=>rfl
   |cons u us ih=>exact fun h=>ih (h.up u)
  refine .inl ⟨fun y=>rfl,?_,?_,fun y hy=>hy⟩
  ·show h.nx≤(h.ups (u::us)).nx+1;rw[hn];omega
  ·show h.nx<(h.ups (u::us)).nx+1;rw[hn];omega
theorem gY.op {p:Oper} {x:AV} {W:WK} (hd:bX nt p.dst=true) (hw:jy all p s.ts=some true) (hp:sF p.op=true) (hy:aP E B p.op s s1 x W) (hl:gY E nt B all l (s1.aY p.dst x) s'):gY E nt B all (p::l) s s':=fun F g φ tm h r=>by
 obtain ⟨h1,h2,h3,h4⟩:=Pw hp;obtain ⟨v,us,v1,v2,r1,_⟩:=hy.go (new:=h.nx) r (r.bd _ (Nat.le_refl _)) r.nx;obtain ⟨F',g',φ',tm',h',r',q⟩:=hl F _ _ _ _ ((r1 _ aeK).aY (d:=p.dst) fun _=>v2)
 exact ⟨F',g',φ',tm',h',r',.afo hd (pn r hw) h1 h2 h3 h4 v1 q⟩
theorem gY.skip {p:Oper} (hd:bX nt p.dst=true) (hw:jy all p s.ts=some false) (hl:gY E nt B all l (s.aY p.dst (.tup [])) s'):gY E nt B all (p::l) s s':=fun F g φ tm h r=>by
 obtain ⟨F',g',φ',tm',h',r',q⟩:=hl F g φ _ h (r.aY (d:=p.dst) fun _=>.tup .nil)
 exact ⟨F',g',φ',tm',h',r',.adL hd (pn r hw) q⟩
structure dR (B:Bs) (s s1:LS):Prop where
 go:∀{F:Hf} {g:Gb} {φ:Nat→List Nat} {tm:Tf} {h:Hs},Rel B F g φ s tm h→∃F' g' φ',Rel B F' g' φ' s1 tm h
theorem gY.ghost (hg:dR B s s1) (hl:gY E nt B all l s1 s'):gY E nt B all l s s':=fun F g φ tm h r=>by
 obtain ⟨F',g',φ',r'⟩:=hg.go r;exact hl F' g' φ' tm h r'
theorem dR.less (hw:oz s s1):dR B s s1:=.mk fun {F g φ _ _} r=>⟨F,g,φ,r.less hw⟩
theorem dR.refl:dR B s s:=.mk fun {F g φ _ _} r=>⟨F,g,φ,r⟩
theorem dR.trans {s2:LS} (a:dR B s s1) (b:dR B s1 s2):dR B s s2:=.mk fun r=>by
 obtain ⟨_,_,_,r1⟩:=a.go r;exact b.go r1
theorem j7 {i:Nat} {o:Option SO} (x:Nat):(h.ups [(i,o)]).hp.get x=if x=i then o else h.hp.get x:=by
 show (h.hp.set i o).get x=_;rw[Tr.bR]
theorem Hr {i:Nat} {o:Option SO}:(h.ups [(i,o)]).lg=i::h.lg:=rfl
theorem aP.pure {op:Op} {x:AV} (hy:∀{F:Hf} {g:Gb} {φ:Nat→List Nat} {tm:Tf} {h:Hs} {new:Nat},Rel B F g φ s tm h→∃v,opA E op tm h.hp.get new=some (v,[])∧VA F g v x):aP E B op s s x none:=aP.mk fun {F g φ tm h new} r h1 h2=>by
 obtain ⟨v,v1,v2⟩:=hy (new:=new) r;refine ⟨v,[],v1,v2,fun h' hu=> ?_,fun u hu=>(by cases hu),fun k b' hb=>.inl ⟨b',hb⟩,fun k hk=>hk.elim (fun x=>x) fun ⟨l,hl⟩=>by cases hl⟩
 show Rel B F g φ s tm h';rcases hu with ⟨u1,u2,u3,u4⟩|⟨_,rfl⟩
 ·exact {r with bx:=fun k b hb=>(r.bx k b hb).jE (Hle.refl F) fun i _=>u1 i,sub:=fun id o ho=>(u1 id).trans (r.sub id o ho),bd:=fun x hx=>(u1 x).trans (r.bd x (Nat.le_trans u2 hx)),nx:=Nat.le_trans r.nx u2,old:=fun x hx hp=>(u1 x).trans (r.old x hx hp),lg:=fun x hx=>r.lg x (u4 x hx)}
 ·exact r
theorem lz {K id:Nat} {c:Cp}:(g.at K id c).ρ K=id:=by simp[Gb.at]
theorem adi {K id:Nat} {c:Cp}:(g.at K id c).κ K=c:=by simp[Gb.at]
theorem adj {K id:Nat} {c:Cp}:(g.at K id c).β K=true:=by simp[Gb.at]
theorem RH {K id k:Nat} {c:Cp} (hk:k≠K):iz g (g.at K id c) [k]:=fun j hj=>by
 have:j≠K:=by rw[List.mem_singleton.1 hj];exact hk
 simp[Gb.at,this]
theorem aex {K id:Nat} {c:Cp} {ks:List Nat} (h:K∉ks):iz g (g.at K id c) ks:=fun k hk=>by
 have:k≠K:=fun e=>h (e ▸ hk)
 simp[Gb.at,this]
theorem wM {K k:Nat} {b:Bx} (hk:(∃b,lk k s.bs=some b)∨k=K):∃b',lk k (s.set K b).bs=some b':=by
 rw[show (s.set K b).bs=(K,b)::s.bs from rfl,br];split
 ·exact ⟨_,rfl⟩
 ·rename_i e;exact hk.elim (fun x=>x) fun e'=>absurd e' e
theorem rm {new:Nat} {us:List Up} {o:Option SO} (h:(new,o)∈us):dM new us=true:=List.any_eq_true.2 ⟨_,h,(beq_iff _ _).2 rfl⟩
theorem ET {new:Nat} {us:List Up} (h:∀u∈us,u.1≠new):dM new us=false:=by
 cases hn:dM new us with
 |false=>rfl
 |true=>
  obtain ⟨u,hu,he⟩:=List.any_eq_true.1 hn;exact absurd ((beq_iff _ _).1 he) (h u hu)
theorem zw {K:Nat} {l:Bool} {new:Nat} {us:List Up} {v:SV} (h:dM new us=true):qw g (some (K,l)) new us v=g.at K new (D8 v):=if_pos h
theorem E5 {K:Nat} {l:Bool} {new:Nat} {us:List Up} (h:dM new us=true):oY φ (some (K,l)) new us=fun k=>if k=K then [new] else φ k:=if_pos h
theorem ui {W:WK} {new:Nat} {us:List Up} {v:SV} (h:dM new us=false):qw g W new us v=g:=by
 cases W with
 |none=>rfl
 |some q=>show (if dM new us=true then _ else g)=g;rw[h];rfl
theorem E4 {W:WK} {new:Nat} {us:List Up} (h:dM new us=false):oY φ W new us=φ:=by
 cases W with
 |none=>rfl
 |some q=>show (if dM new us=true then _ else φ)=φ;rw[h];rfl
theorem aP.lay {op:Op} {x:AV} {K:Nat} {b:Bx} (hk:s.free K) (hp:B.pk K=false)
  (hy:∀{F:Hf} {g:Gb} {φ:Nat→List Nat} {tm:Tf} {h:Hs} {new:Nat},Rel B F g φ s tm h→∃v o,opA E op tm h.hp.get new=some (v,[(new,some o)])∧VA F (g.at K new (D8 v)) v x∧∀hp':Hf,hp' new=some o→du F (g.at K new (D8 v)) hp' K b [new]):aP E B op s (s.set K b) x (some (K,true)):=aP.mk fun {F g φ tm h new} r h1 h2=>by
 obtain ⟨v,o,v1,v2,v3⟩:=hy (new:=new) r;have hn:dM new [(new,some o)]=true:=rm List.mem_cons_self;refine ⟨v,_,v1,by rw[zw hn];exact v2,fun h' hu=> ?_,fun u hu=>.inl (by rw[List.mem_singleton.1 hu]),fun k b' hb=> ?_,fun k hk=>wM (hk.elim .inl fun ⟨l,hl⟩=>.inr (by cases hl;rfl))⟩
 rotate_left
 ·by_cases e:k=K
  ·subst e;exact .inr ⟨hn,true,rfl⟩
  ·rw[show (s.set K b).bs=(K,b)::s.bs from rfl,br,if_neg e] at hb;exact .inl ⟨b',hb⟩
 rw[zw hn,E5 hn];rcases hu with ⟨u1,u2,u3,u4⟩|⟨hc,_⟩
 ·exact r.chg (K:=K) (b':=b) (fo:= []) (fp:= [new]) (g':=g.at K new (D8 v)) (h':=h') (fun i hi=>by cases hi) (fun i hi=>.inr (by rw[List.mem_singleton.1 hi];exact ⟨h1,h2⟩))
   (fun x _ hx=>by rw[u1,j7,if_neg (fun e=>hx (by simp[e]))]) u2 (fun x hx=>by rw[u1,j7,if_neg (by omega)];exact r.bd x (by omega)) (fun x hx=>by have:=u4 x hx;rw[Hr] at this;rcases List.mem_cons.1 this with rfl|hx;exact .inr (.inr (by simp));exact .inl hx) (v3 _ (by rw[u1,j7,if_pos rfl])) (.inr ⟨hk,hp,fun k hne=>RH hne⟩)
 ·cases hc
theorem aP.wr {op:Op} {x:AV} {K:Nat} {b b':Bx} (hb:lk K s.bs=some b)
  (hy:∀{F:Hf} {g:Gb} {φ:Nat→List Nat} {tm:Tf} {h:Hs} {new:Nat},Rel B F g φ s tm h→∃v o,opA E op tm h.hp.get new=some (v,[(g.ρ K,some o)])∧VA F g v x∧φ K= [g.ρ K]∧∀hp':Hf,hp' (g.ρ K)=some o→du F g hp' K b' [g.ρ K]):aP E B op s (s.set K b') x (some (K,false)):=aP.mk fun {F g φ tm h new} r h1 h2=>by
 obtain ⟨v,o,v1,v2,hφ,v3⟩:=hy (new:=new) r;have hlt:=r.lt hb (g.ρ K) (by simp[hφ])
 have hne:g.ρ K≠new:=fun e=>(r.bx K b hb).there (g.ρ K) (by simp[hφ]) (by rw[e];exact h1)
 have hn:dM new [(g.ρ K,some o)]=false:=ET fun u hu=>by rw[List.mem_singleton.1 hu];exact hne
 refine ⟨v,_,v1,by rw[ui hn];exact v2,fun h' hu=> ?_,fun u hu=>.inr ⟨K,b,rfl,hb,by rw[List.mem_singleton.1 hu,hφ];simp⟩,fun k b2 hb2=> ?_,fun k hk=>wM (hk.elim .inl fun ⟨l,hl⟩=>.inr (by cases hl;rfl))⟩
 rotate_left
 ·by_cases e:k=K
  ·subst e;exact .inl ⟨b,hb⟩
  ·rw[show (s.set K b').bs=(K,b')::s.bs from rfl,br,if_neg e] at hb2;exact .inl ⟨b2,hb2⟩
 rw[ui hn,E4 hn];rcases hu with ⟨u1,u2,u3,u4⟩|⟨hc,_⟩
 ·have:=r.chg (K:=K) (b':=b') (fo:= [g.ρ K]) (fp:= [g.ρ K]) (g':=g) (h':=h') (fun i hi=>⟨b,hb,by rw[hφ];exact hi⟩) (fun i hi=>.inl hi)
   (fun x _ hx=>by rw[u1,j7,if_neg (fun e=>hx (by simp[e]))]) u2 (fun x hx=>by rw[u1,j7,if_neg (by omega)];exact r.bd x (by omega)) (fun x hx=>by have:=u4 x hx;rw[Hr] at this;rcases List.mem_cons.1 this with rfl|hx;exact .inr (.inr (by simp));exact .inl hx) (v3 _ (by rw[u1,j7,if_pos rfl])) (.inl rfl)
  have e:(fun k=>if k=K then [g.ρ K] else φ k)=φ:=by
   funext k;by_cases hk:k=K
   ·rw[if_pos hk,hk,hφ]
   ·rw[if_neg hk]
  rwa[e] at this
 ·cases hc
theorem cW {α γ:Type} {x:Option α} {a:α} {f:α→Option γ} (h:x=some a):ai x f=f a:=by rw[h];rfl
theorem m7 {α β γ:Type} {x:Option α} {y:Option β} {a:α} {b:β} {f:α→β→Option γ} (h:x=some a) (k:y=some b):aF x y f=f a b:=by rw[h,k];rfl
end
section
variable {F F':Hf} {g g':Gb} {B:Bs} {φ:Nat→List Nat} {s s' s1:LS} {tm:Tf} {h:Hs} {hp:Hf} {E:Env} {nt:Nat} {all l:List Oper}
theorem aP.un {op:Op} {a:Operand} {f:Hf→SV→Option (SV×List Up)} {x y:AV} (hop:∀tm hp new,opA E op tm hp new=one tm a (f hp)) (ha:aJ s.ts a=y) (hy:y≠ .undef)
  (hf:∀{F:Hf} {g:Gb} {φ:Nat→List Nat} {tm:Tf} {h:Hs} {v:SV},Rel B F g φ s tm h→VA F g v y→∃u,f h.hp.get v=some (u,[])∧VA F g u x):aP E B op s s x none:=aP.pure fun {F g φ tm h new} r=>by
 obtain ⟨v,v1,v2⟩:=r.val ha hy;obtain ⟨u,u1,u2⟩:=hf r v2;refine ⟨u,?_,u2⟩;rw[hop];unfold one;rw[v1];exact u1
theorem aP.bi {op:Op} {a b:Operand} {f:Hf→SV→SV→Option (SV×List Up)} {x y z:AV} (hop:∀tm hp new,opA E op tm hp new=two tm a b (f hp)) (ha:aJ s.ts a=y) (hy:y≠ .undef) (hb:aJ s.ts b=z) (hz:z≠ .undef)
  (hf:∀{F:Hf} {g:Gb} {φ:Nat→List Nat} {tm:Tf} {h:Hs} {v w:SV},Rel B F g φ s tm h→VA F g v y→VA F g w z→∃u,f h.hp.get v w=some (u,[])∧VA F g u x):aP E B op s s x none:=aP.pure fun {F g φ tm h new} r=>by
 obtain ⟨v,v1,v2⟩:=r.val ha hy;obtain ⟨w,w1,w2⟩:=r.val hb hz;obtain ⟨u,u1,u2⟩:=hf r v2 w2;refine ⟨u,?_,u2⟩;rw[hop];unfold two;rw[v1,w1];exact u1
def gy (i:TI) (cs:List AV) (off:Nat):Option AV:=
 sel (eU i.desc) (sel (Nat.ble (Nat.add off i.size) cs.length) (some (.agg ((cs.drop off).take i.size))) none) (cs[off]?)
theorem jU {i:TI} {vs:List SV} {cs:List AV} {off:Nat} {x:AV} (q:VAs F g vs cs) (hx:gy i cs off=some x):∃v,cO i vs off=some v∧VA F g v x:=by
 unfold gy at hx;unfold cO;rw[aC] at hx ⊢;split at hx
 ·rename_i ha;rw[if_pos ha];obtain ⟨hl,hx⟩:=av hx;cases hx;rw[q.length,aC,if_pos hl];exact ⟨_,rfl,.agg ((q.drop off).take i.size)⟩
 ·rename_i ha;rw[if_neg ha];exact q.get hx
theorem yN {i:TI} {svs:List SV} {off n:Nat} {u:SV} (h:cO i ((svs.drop off).take n) 0=some u) (hl:off+n≤svs.length):cO i svs off=some u:=by
 unfold cO at h ⊢;rw[aC] at h ⊢;split at h
 ·rename_i ha;rw[if_pos ha];obtain ⟨hle,hu⟩:=av h;have hle:0+i.size≤((svs.drop off).take n).length:=(aX _ _).1 hle;rw[List.length_take,List.length_drop] at hle;cases hu;rw[aC,if_pos (show Nat.ble (Nat.add off i.size) svs.length=true from (aX _ _).2 (show off+i.size≤svs.length by omega))]
  rw[List.drop_zero,List.take_take,Nat.min_eq_left (by omega)]
 ·rename_i ha;rw[if_neg ha];rw[List.getElem?_take] at h;split at h
  ·rw[List.getElem?_drop] at h;simpa using h
  ·cases h
def sT (E:Env) (s:TypeId) (f:Nat):Option (Nat×TI):=ai (E.ty.get s) fun i=>ai (mE i.desc) fun fs=>ai (fs[f]?) fun fl=>ai (E.ty.get fl.type) fun fi=>some (fl.off,fi)
theorem vS {t:TypeId} {f:Nat} {p:Nat×TI} (hf:sT E t f=some p):∃i fs fl,E.ty.get t=some i∧mE i.desc=some fs∧fs[f]? =some fl∧E.ty.get fl.type=some p.2∧fl.off=p.1:=by
 obtain ⟨i,hi,hf⟩:=af hf;obtain ⟨fs,hfs,hf⟩:=af hf;obtain ⟨fl,hfl,hf⟩:=af hf;obtain ⟨fi,hfi,hf⟩:=af hf;cases hf;exact ⟨i,fs,fl,hi,hfs,hfl,hfi,rfl⟩
def Xd (p:Nat×TI) (x:AV):Option AV:=
 sel (Nat.ble 1 p.2.size) (match x with
  | .loc K off=>some (.loc K (Nat.add off p.1))
  | .el K s j f=>some (.el K s j (Nat.add f p.1))
  | .imm cs=>sel (Nat.ble p.1 cs.length) (some (.imm (cs.drop p.1))) none
  |_=>none) none
theorem Zd {id off k:Nat} {cs:List AV} (q:VA F g (.ptr id off) (.imm cs)) (hk:k≤cs.length):VA F g (.ptr id (off+k)) (.imm (cs.drop k)):=by
 cases q with
 |imm hF hl hv=>
  refine .imm (kK hF (by omega) (by rw[List.length_drop];omega)) (by rw[List.length_drop];omega) ?_
  have:=hv.drop k;rw[List.drop_take,List.drop_drop] at this;rw[List.length_drop];exact this
theorem Jy {t:TypeId} {a:Operand} {f:Nat} {p:Nat×TI} {x y:AV} (hp:sT E t f=some p) (ha:aJ s.ts a=y) (hx:Xd p y=some x):aP E B (.fieldAddr t a f) s s x none:=by
 obtain ⟨i,fs,fl,e1,e2,e3,e4,e5⟩:=vS hp;obtain ⟨hsz,hx⟩:=av hx;refine aP.un (f:=fun _=>iQ E t f) (fun _ _ _=>rfl) ha (fun e=>by subst e;cases hx) fun {F g φ tm h v} r hv=> ?_
 have key:∀id off,iQ E t f (.ptr id off)=some (SV.ptr id (Nat.add off p.1),[]):=fun id off=>by
  unfold iQ;rw[e1];show ai (mE i.desc) _=_;rw[e2];show ai (fs[f]?) _=_;rw[e3];show ai (E.ty.get fl.type) _=_;rw[e4];show sel (Nat.ble 1 p.2.size) (some (SV.ptr id (Nat.add off fl.off),[])) none=_;rw[hsz,e5]
 cases y with
 |loc K off=>
  cases hx;cases hv;exact ⟨_,key _ _,.loc K _⟩
 |el K sz j f'=>
  cases hx;cases hv with|el _ _ _ hb0=>
  refine ⟨_,key _ _,?_⟩;rw[show Nat.add (j*sz+f') p.1=j*sz+Nat.add f' p.1 from Nat.add_assoc _ _ _];exact .el sz j _ hb0
 |imm cs=>
  obtain ⟨hk,hx⟩:=av (show sel (Nat.ble p.1 cs.length) (some (.imm (cs.drop p.1))) none=some x from hx);cases hx;have hv':∃id off,v=SV.ptr id off:=by cases hv;exact ⟨_,_,rfl⟩
  obtain ⟨id,off,rfl⟩:=hv';exact ⟨_,key _ _,Zd hv ((aX _ _).1 hk)⟩
 |_=>cases hx
theorem adr {i:TI} {cs:List AV} {x:AV} (h:gy i cs 0=some x):wide i≤cs.length:=by
 unfold gy at h;unfold wide;rw[aC] at h ⊢;split at h
 ·rename_i hg;rw[if_pos hg];obtain ⟨h1,_⟩:=av h;have:=(aX _ _).1 h1;rwa[show Nat.add 0 i.size=i.size from Nat.zero_add _] at this
 ·rename_i hg;rw[if_neg hg];have:=(List.getElem?_eq_some_iff.1 h).1;omega
theorem sK {t:TypeId} {i:TI} {id off:Nat} {e:TypeId} {svs:List SV} {u:SV} (hi:E.ty.get t=some i) (hh:cD (hp id) off (wide i)=some (e,svs)) (hu:cO i svs off=some u):same (iJ E hp t (.ptr id off))=some (u,[]):=by
 unfold iJ;show same (ai (E.ty.get t) fun i=>ai (cD (hp id) off (wide i)) fun p=>cO i p.2 off)=_
 rw[hi];show same (ai (cD (hp id) off (wide i)) fun p=>cO i p.2 off)=_
 rw[hh];show same (cO i svs off)=_;rw[hu];rfl
def FH (i:TI) (bs:List (Nat×Bx)):AV→Option AV
 | .imm cs=>ai (gy i cs 0) fun x=>sel (bW x).isEmpty (some x) none
 | .loc K off=>
  (match lk K bs with
  |some (.flat _ cs)=>gy i cs off
  |_=>none)
 |_=>none
theorem VA.gf {v:SV} {x:AV} (q:VA F g v x) (hk:(bW x).isEmpty=true):VA F g' v x:=q.gb fun k hk'=>by rw[List.isEmpty_iff.1 hk] at hk';cases hk'
theorem VAs.gf {v:List SV} {x:List AV} (q:VAs F g v x) (hk:(cI x).isEmpty=true):VAs F g' v x:=q.gb fun k hk'=>by rw[List.isEmpty_iff.1 hk] at hk';cases hk'
theorem Oi {t:TypeId} {i:TI} {x y:AV} {v:SV} (hi:E.ty.get t=some i) (hx:FH i s.bs y=some x) (r:Rel B F g φ s tm h) (hv:VA F g v y):∃u,same (iJ E h.hp.get t v)=some (u,[])∧VA F g u x:=by
 cases y with
 |imm cs=>
  obtain ⟨x',hx,hx'⟩:=af (show ai (gy i cs 0) (fun x=>sel (bW x).isEmpty (some x) none)=some x from hx)
  obtain ⟨hk,hx'⟩:=av hx';cases hx';cases hv with
  | @imm _ id off _ e svs hF hl hv=>
  obtain ⟨u,u1,u2⟩:=jU hv hx;exact ⟨u,sK hi (kK (g4 r.sub hF) (Nat.le_refl _) (Nat.add_le_add_left (adr hx) _)) (yN u1 hl),u2.gf hk⟩
 |loc K off=>
  have hx:(match lk K s.bs with|some (.flat _ cs)=>gy i cs off|_=>none)=some x:=hx
  split at hx
  ·rename_i e cs hb;cases hv;have q:=r.bx K _ hb;generalize φ K=fp at q;cases q with
   | @flat _ _ svs hh qc=>
   obtain ⟨u,u1,u2⟩:=jU qc hx;exact ⟨u,sK hi (jv hh) u1,u2⟩
  ·cases hx
 |_=>cases hx
theorem adQ {t:TypeId} {a:Operand} {i:TI} {x y:AV} (hi:E.ty.get t=some i) (ha:aJ s.ts a=y) (hx:FH i s.bs y=some x):aP E B (.load t a) s s x none:=aP.un (f:=fun hp v=>same (iJ E hp t v)) (fun _ _ _=>rfl) ha (fun e=>by subst e;cases hx) fun {F g φ tm h v} r hv=>Oi hi hx r hv
theorem UC {x:Option SV} {u:SV} (h:same x=some (u,[])):x=some u:=by
 cases x with
 |none=>cases h
 |some v=>cases h;rfl
end
section
variable {F F':Hf} {g g':Gb} {B:Bs} {φ:Nat→List Nat} {s s' s1:LS} {tm:Tf} {h:Hs} {hp:Hf} {E:Env} {nt:Nat} {all l:List Oper}
theorem adP {a:Operand} {x:AV} (ha:aJ s.ts a=x) (hx:x≠ .undef):aP E B (.move a) s s x none:=aP.un (f:=fun _ v=>some (v,[])) (fun _ _ _=>rfl) ha hx fun r hv=>⟨_,rfl,hv⟩
theorem Wq {a:Operand} {x:AV} (ha:aJ s.ts a=x) (hx:x≠ .undef):aP E B (.assign a) s s x none:=aP.un (f:=fun _ v=>some (v,[])) (fun _ _ _=>rfl) ha hx fun r hv=>⟨_,rfl,hv⟩
theorem adN {c a b:Operand} {t:Bool} {x:AV} (hc:aJ s.ts c= .bool t) (ha:aJ s.ts (sel t a b)=x) (hx:x≠ .undef):aP E B (.pick c a b) s s x none:=aP.pure fun {F g φ tm h new} r=>by
 obtain ⟨v,v1,v2⟩:=r.val hc (by simp)
 obtain ⟨w,w1,w2⟩:=r.val ha hx;cases v2;refine ⟨w,?_,w2⟩;show ai (aI tm c) (fun v=>ai (il v) fun b'=>one tm (sel b' a b) fun v=>some (v,[]))=_
 rw[v1];show one tm (sel t a b) (fun v=>some (v,[]))=_
 unfold one;rw[w1];rfl
def acz:AV→Bool
 | .loc _ _| .el _ _ _ _| .imm _| .fn _ _ _=>true
 |_=>false
theorem MM {a:Operand} {x:AV} (ha:aJ s.ts a=x) (hx:acz x=true):aP E B (.nilCheck a) s s x none:=aP.un (f:=fun _ v=>same (Av v)) (fun _ _ _=>rfl) ha (fun e=>by subst e;cases hx) fun {F g φ tm h v} r hv=>by
 refine ⟨v,?_,hv⟩;cases x<;>first|(cases hx;done)|(cases hv<;>rfl)
theorem YB {t:TypeId} {a:Operand} {f:Nat} {p:Nat×TI} {cs:List AV} {x:AV} (hp:sT E t f=some p) (ha:aJ s.ts a= .agg cs) (hx:gy p.2 cs p.1=some x):aP E B (.field t a f) s s x none:=by
 obtain ⟨i,fs,fl,e1,e2,e3,e4,e5⟩:=vS hp;refine aP.un (f:=fun _=>mO E t f) (fun _ _ _=>rfl) ha (by simp) fun {F g φ tm h v} r hv=> ?_
 cases hv with
 | @agg _ vs _ q=>
 obtain ⟨u,u1,u2⟩:=jU q hx;refine ⟨u,?_,u2⟩;show mO E t f (.agg vs)=_;unfold mO;rw[e1];show ai (mE i.desc) _=_;rw[e2];show ai (fs[f]?) _=_;rw[e3];show ai (E.ty.get fl.type) _=_;rw[e4];show same (cO p.2 vs fl.off)=_;rw[e5,u1];rfl
theorem PD {a:Operand} {i:Nat} {xs:List AV} {x:AV} (ha:aJ s.ts a= .tup xs) (hx:xs[i]? =some x):aP E B (.extract a i) s s x none:=aP.un (f:=fun _ v=>ai (zN v) fun vs=>same (vs[i]?)) (fun _ _ _=>rfl) ha (by simp) fun {F g φ tm h v} r hv=>by
 cases hv with
 | @tup _ vs _ q=>
 obtain ⟨u,u1,u2⟩:=q.get hx;refine ⟨u,?_,u2⟩;show same (vs[i]?)=_;rw[u1];rfl
def binL:BinOp→IntKind→Int→Int→Option AV
 | .add,k,m,n=>some (.int k (k.wrap (m+n)))
 | .sub,k,m,n=>some (.int k (k.wrap (m-n)))
 | .eql,_,m,n=>some (.bool (decide (m=n)))
 | .neq,_,m,n=>some (.bool (!decide (m=n)))
 | .lss,_,m,n=>some (.bool (decide (m<n)))
 | .leq,_,m,n=>some (.bool (!decide (n<m)))
 | .gtr,_,m,n=>some (.bool (decide (n<m)))
 | .geq,_,m,n=>some (.bool (!decide (m<n)))
 | .shr,k,m,n=>sel (decide (n=1)) (some (.int k (m.fdiv 2))) none
 |_,_,_,_=>none
theorem aew {op:BinOp} {t:TypeId} {k:IntKind} {m n:Int} {x:AV} (hx:binL op k m n=some x):∃v,KX E op t k (.lit m) (.int k (.lit n))=some v∧VA F g v x:=by
 have red:KX E op t k (.lit m) (.int k (.lit n))=FK op E op t k k (.lit m) (.lit n):=rfl;rw[red];have kk:=P0 k;cases op<;>first|(cases hx;done)|skip
 ·cases hx;refine ⟨.int k (.lit (k.wrap (m+n))),?_,.int _ _⟩;show sel (bV k k) (some (SV.int k (Lh k (.lit m) (.lit n)))) none=_;rw[kk];rfl
 ·cases hx;refine ⟨.int k (.lit (k.wrap (m-n))),?_,.int _ _⟩;show sel (bV k k) (some (SV.int k (yG k (.lit m) (.lit n)))) none=_;rw[kk];rfl
 ·obtain ⟨hn,hx⟩:=av hx;have hn:n=1:=by simpa using hn
  subst hn;cases hx;refine ⟨.int k (.lit (m.fdiv 2)),?_,.int _ _⟩;cases k<;>rfl
 ·cases hx;refine ⟨.bool (decide (m=n)),?_,.bool _⟩;show sel (bV k k) (eK false (some (r7 m n))) none=_;rw[kk,lV];rfl
 ·cases hx;refine ⟨.bool (!decide (m=n)),?_,.bool _⟩;show sel (bV k k) (eK true (some (r7 m n))) none=_;rw[kk,lV];rfl
 ·cases hx;refine ⟨.bool (decide (m<n)),?_,.bool _⟩;show sel (bV k k) (eK false (some (mf m n))) none=_;rw[kk,lE];rfl
 ·cases hx;refine ⟨.bool (!decide (n<m)),?_,.bool _⟩;show sel (bV k k) (eK true (some (mf n m))) none=_;rw[kk,lE];rfl
 ·cases hx;refine ⟨.bool (decide (n<m)),?_,.bool _⟩;show sel (bV k k) (eK false (some (mf n m))) none=_;rw[kk,lE];rfl
 ·cases hx;refine ⟨.bool (!decide (m<n)),?_,.bool _⟩;show sel (bV k k) (eK true (some (mf m n))) none=_;rw[kk,lE];rfl
def binS:BinOp→ByteArray→ByteArray→Option AV
 | .eql,a,b=>some (.bool (decide (a=b)))
 | .neq,a,b=>some (.bool (!decide (a=b)))
 | .lss,a,b=>some (.bool (Op.bytesLess a.toList b.toList))
 | .leq,a,b=>some (.bool (Op.bytesLess a.toList b.toList||a.toList==b.toList))
 | .gtr,a,b=>some (.bool (!(Op.bytesLess a.toList b.toList||a.toList==b.toList)))
 | .geq,a,b=>some (.bool (!Op.bytesLess a.toList b.toList))
 |_,_,_=>none
theorem aev {op:BinOp} {t:TypeId} {a b:ByteArray} {x:AV} (hx:binS op a b=some x):∃v,Xq E op t a (.str b)=some v∧VA F g v x:=by
 cases op<;>first|(cases hx;done)|skip
 ·cases hx;refine ⟨.bool (pJ a b),rfl,?_⟩;rw[kD];exact .bool _
 ·cases hx;refine ⟨.bool (!pJ a b),rfl,?_⟩;rw[kD];exact .bool _
 all_goals (cases hx;exact ⟨_,rfl,.bool _⟩)
def eqPL:AV→AV→Option Bool
 | .cz,.cz=>some true
 | .cz,.loc _ _| .cz,.el _ _ _ _| .cz,.imm _=>some false
 | .loc _ _,.cz| .el _ _ _ _,.cz| .imm _,.cz=>some false
 |_,_=>none
def eqSL:AV→AV→Option Bool
 | .aR,.aR=>some true
 | .aR,.sln _ _ rows=>some rows.isEmpty
 | .sln _ _ rows,.aR=>some rows.isEmpty
 |_,_=>none
def eqFL:AV→AV→Option Bool
 | .cK,.cK=>some true
 | .cK,.fn _ _ _=>some false
 | .fn _ _ _,.cK=>some false
 |_,_=>none
def eqML:AV→AV→Option Bool
 | .cA,.cA=>some true
 | .cA,.mp _=>some false
 | .mp _,.cA=>some false
 |_,_=>none
def eqIL (E:Env) (eq:TypeId→AV→AV→Option Bool):AV→AV→Option Bool
 | .cg,.cg=>some true
 | .cg,.ifc _ _=>some false
 | .ifc _ _,.cg=>some false
 | .ifc t1 v1,.ifc t2 v2=>sel (Nat.beq t1 t2) (ai (E.ty.get t1) fun i1=>sel i1.comparable (eq t1 v1 v2) none) (some false)
 |_,_=>none
def Q5 (E:Env) (eq:TypeId→AV→AV→Option Bool) (xs ys:List AV):List FL→Option Bool
 | []=>some true
 |f::fs=>sel f.named (ai (E.ty.get f.type) fun i=>aF (gy i xs f.off) (gy i ys f.off) fun x y=>aF (eq f.type x y) (Q5 E eq xs ys fs) fun a b=>some (a&&b)) none
def ZI (E:Env) (eq:TypeId→AV→AV→Option Bool) (t:TypeId):UD→AV→AV→Option Bool
 | .bool,.bool a,.bool b=>some (a==b)
 | .int _,.int k a,.int k' b=>sel (bV k k') (some (decide (a=b))) none
 | .string,.str a,.str b=>some (decide (a=b))
 | .pointer,x,y=>eqPL x y
 | .slice _,x,y=>eqSL x y
 | .map _ _,x,y=>eqML x y
 | .struct fs,.agg xs,.agg ys=>sel (E.P.stoodInHeld t) none (Q5 E eq xs ys fs)
 | .func,x,y=>eqFL x y
 | .interface,x,y=>eqIL E eq x y
 |_,_,_=>none
def D1 (E:Env) (n:Nat):TypeId→AV→AV→Option Bool:=
 @Nat.rec (fun _=>TypeId→AV→AV→Option Bool) (fun _ _ _=>none) (fun _ eq t x y=>ai (E.ty.get t) fun i=>ZI E eq t i.desc x y) n
theorem Ky {eq:TypeId→SV→SV→Option Bool} {eqL:TypeId→AV→AV→Option Bool} (ih:∀t v w x y b,VA F g v x→VA F g w y→eqL t x y=some b→eq t v w=some b) {vs ws:List SV} {xs ys:List AV} (h1:VAs F g vs xs) (h2:VAs F g ws ys):∀{fs:List FL} {b:Bool},Q5 E eqL xs ys fs=some b→ud E eq vs ws fs=some b
 | [],_,hb=>hb
 |f::fs,b,hb=>by
  obtain ⟨hn,hb⟩:=av hb;obtain ⟨i,hi,hb⟩:=af hb;obtain ⟨x,y,hx,hy,hb⟩:=ay hb;obtain ⟨c,d,hc,hd,hb⟩:=ay hb;obtain ⟨v,v1,v2⟩:=jU h1 hx;obtain ⟨w,w1,w2⟩:=jU h2 hy;have e1:=ih _ _ _ _ _ _ v2 w2 hc;have e2:=Ky ih h1 h2 hd;show sel f.named (ai (E.ty.get f.type) fun i=>aF (cO i vs f.off) (cO i ws f.off) fun x y=>andThen (eq f.type x y) (ud E eq vs ws fs)) none=_
  rw[hn,hi];show aF (cO i vs f.off) (cO i ws f.off) (fun x y=>andThen (eq f.type x y) (ud E eq vs ws fs))=_
  rw[v1,w1];show andThen (eq f.type v w) (ud E eq vs ws fs)=_;rw[e1,e2];cases hb;cases c<;>rfl
theorem IQ {v:SV} {e:TypeId} {sz:Nat} {rows:List (List AV)} (q:VA F g v (.sln e sz rows)):D3 .aR v=some rows.isEmpty∧D3 v .aR=some rows.isEmpty:=by
 cases q with
 |og=>exact ⟨rfl,rfl⟩
 |sln hF hc hn hz=>cases rows with
  |nil=>exact absurd rfl hz
  |cons=>exact ⟨rfl,rfl⟩
theorem On:∀(n:Nat) {t:TypeId} {v w:SV} {x y:AV} {b:Bool},VA F g v x→VA F g w y→D1 E n t x y=some b→eqT E n t v w=some b
 |0,_,_,_,_,_,_,_,_,hb=>by cases hb
 |n+1,t,v,w,x,y,b,hv,hw,hb=>by
  obtain ⟨i,hi,hb⟩:=af (show ai (E.ty.get t) (fun i=>ZI E (D1 E n) t i.desc x y)=some b from hb)
  show ai (E.ty.get t) (fun i=>eqD i.desc E (eqT E n) t v w)=_
  rw[hi];show eqD i.desc E (eqT E n) t v w=some b;have ih:∀t v w x y b,VA F g v x→VA F g w y→D1 E n t x y=some b→eqT E n t v w=some b:=fun _ _ _ _ _ _ a b c=>On n a b c
  generalize i.desc=d at hb;unfold ZI at hb;split at hb
  ·cases hv;cases hw;exact hb
  ·cases hv;cases hw;obtain ⟨hk,hb⟩:=av hb;show sel (bV _ _) (some (r7 _ _)) none=_;rw[hk,lV];exact hb
  ·cases hv;cases hw;show some (pJ _ _)=_;rw[kD];exact hb
  ·show FY v w=_;unfold eqPL at hb;split at hb<;>first|(cases hb;done)|(cases hv<;>cases hw<;>exact hb)
  ·show D3 v w=_;unfold eqSL at hb;split at hb
   ·cases hv;cases hw;exact hb
   ·cases hv;rw[(IQ hw).1];exact hb
   ·cases hw;rw[(IQ hv).2];exact hb
   ·cases hb
  ·show FZ v w=_;unfold eqML at hb;split at hb<;>first|(cases hb;done)|(cases hv<;>cases hw<;>exact hb)
  ·cases hv with|agg h1=>cases hw with|agg h2=>
   show sel (E.P.stoodInHeld t) none (ud E (eqT E n) _ _ _)=_;rw[aC] at hb ⊢;split at hb
   ·cases hb
   ·rename_i hs;rw[if_neg hs];exact Ky ih h1 h2 hb
  ·show Q6 v w=_;unfold eqFL at hb;split at hb<;>first|(cases hb;done)|(cases hv<;>cases hw<;>exact hb)
  ·show F0 E (eqT E n) v w=_;unfold eqIL at hb;split at hb
   ·cases hv;cases hw;exact hb
   ·cases hv;cases hw;exact hb
   ·cases hv;cases hw;exact hb
   ·cases hv with|ifc _ h1=>cases hw with|ifc _ h2=>
    show sel (Nat.beq _ _) (ai (E.ty.get _) fun i1=>sel i1.comparable (eqT E n _ _ _) none) (some false)=_
    rw[aC] at hb ⊢;split at hb
    ·rename_i e;rw[if_pos e];obtain ⟨i1,hi1,hb⟩:=af hb;obtain ⟨hc,hb⟩:=av hb;rw[hi1];show sel i1.comparable (eqT E n _ _ _) none=_;rw[hc];exact ih _ _ _ _ _ _ h1 h2 hb
    ·rename_i e;rw[if_neg e];exact hb
   ·cases hb
  ·cases hb
def Q4 (E:Env) (t:TypeId) (ox oy:Operand) (x:AV):Bool:=
 match x with
 | .cg=>isConst ox||isConst oy
 | .agg _=> !E.P.eqGuardType E.P.depth t
 | .undef=>false
 |_=>true
def gH (E:Env) (op:BinOp) (t:TypeId) (ox oy:Operand) (x y:AV):Option AV:=
 match op with
 | .eql=>sel (Q4 E t ox oy x) (ai (D1 E 20 t x y) fun b=>some (.bool b)) none
 | .neq=>sel (Q4 E t ox oy x) (ai (D1 E 20 t x y) fun b=>some (.bool (!b))) none
 |_=>none
def Rx (E:Env) (op:BinOp) (t:TypeId) (ox oy:Operand):AV→AV→Option AV
 | .int k m,.int k' n=>sel (bV k k') (binL op k m n) none
 | .str a,.str b=>binS op a b
 | .bool a,y=>gH E op t ox oy (.bool a) y
 | .agg xs,y=>gH E op t ox oy (.agg xs) y
 | .aR,y=>gH E op t ox oy .aR y
 | .sln a b c,y=>gH E op t ox oy (.sln a b c) y
 | .cz,y=>gH E op t ox oy .cz y
 | .loc a b,y=>gH E op t ox oy (.loc a b) y
 | .el a b c d,y=>gH E op t ox oy (.el a b c d) y
 | .imm a,y=>gH E op t ox oy (.imm a) y
 | .cK,y=>gH E op t ox oy .cK y
 | .fn a b c,y=>gH E op t ox oy (.fn a b c) y
 | .cA,y=>gH E op t ox oy .cA y
 | .mp a,y=>gH E op t ox oy (.mp a) y
 | .cg,y=>gH E op t ox oy .cg y
 | .ifc a b,y=>gH E op t ox oy (.ifc a b) y
 |_,_=>none
theorem Yq {op:BinOp} {t:TypeId} {ox oy:Operand} {v w:SV} {x y z:AV} (hv:VA F g v x) (hw:VA F g w y) (hz:gH E op t ox oy x y=some z) (hb:∀v',VA F g v' x→Z4 v'=fun E op t ox oy x y=>eG op E t ox oy x y):∃u,sj E op t ox oy v w=some u∧VA F g u z:=by
 have key:∀{b:Bool},Q4 E t ox oy x=true→D1 E 20 t x y=some b→uc E t ox oy v w=some b:=fun {b} h1 h2=>by
  have e2:=On 20 hv hw h2;unfold uc;have e1:ZH E t ox oy v=true:=by
   cases x<;>first|(cases h1;done)|skip
   all_goals (cases hv<;>first|exact h1|rfl)
  rw[e1];exact e2
 show ∃u,Z4 v E op t ox oy v w=some u∧VA F g u z;rw[hb v hv];unfold gH at hz;split at hz
 ·obtain ⟨h1,hz⟩:=av hz;obtain ⟨b,h2,hz⟩:=af hz;cases hz;refine ⟨.bool b,?_,.bool _⟩;show eK false (uc E t ox oy v w)=_;rw[key h1 h2];rfl
 ·obtain ⟨h1,hz⟩:=av hz;obtain ⟨b,h2,hz⟩:=af hz;cases hz;refine ⟨.bool (!b),?_,.bool _⟩;show eK true (uc E t ox oy v w)=_;rw[key h1 h2];rfl
 ·cases hz
theorem afx {op:BinOp} {t t2:TypeId} {a b:Operand} {x y z:AV} (ha:aJ s.ts a=x) (hb:aJ s.ts b=y) (hy:y≠ .undef) (hz:Rx E op t a b x y=some z):aP E B (.binOp op t a b t2) s s z none:=by
 refine aP.bi (f:=fun _ v u=>same (sj E op t a b v u)) (fun _ _ _=>rfl) ha (fun e=>by subst e;cases hz) hb hy fun {F g φ tm h v w} r hv hw=> ?_
 have key:∃u,sj E op t a b v w=some u∧VA F g u z:=by
  unfold Rx at hz;split at hz<;>first|(cases hz;done)|skip
  ·rename_i k m k' n;obtain ⟨hk,hz2⟩:=av hz;have ek:k=k':=by cases k<;>cases k'<;>first|rfl|(cases hk;done)
   subst ek;cases hv;cases hw;exact aew hz2
  ·cases hv;cases hw;exact aev hz
  all_goals exact Yq hv hw hz fun v' hv'=>by cases hv'<;>rfl
 obtain ⟨u,u1,u2⟩:=key;refine ⟨u,?_,u2⟩;show same (sj E op t a b v w)=_;rw[u1];rfl
end
section
variable {F F':Hf} {g g':Gb} {B:Bs} {φ:Nat→List Nat} {s s' s1:LS} {tm:Tf} {h:Hs} {hp:Hf} {E:Env} {nt:Nat} {all l:List Oper}
def unL (op:UnOp):AV→Option AV
 | .bool b=>sel (AP op) (some (.bool (!b))) none
 | .int k n=>sel (isNeg op) (some (.int k (k.wrap (0-n)))) none
 |_=>none
theorem ahB {op:UnOp} {t:TypeId} {a:Operand} {x y:AV} (ha:aJ s.ts a=y) (hx:unL op y=some x):aP E B (.unOp op t a) s s x none:=aP.un (f:=fun _ v=>same (unA op v)) (fun _ _ _=>rfl) ha (fun e=>by subst e;cases hx) fun {F g φ tm h v} r hv=>by
 cases y<;>first|(cases hx;done)|skip
 ·obtain ⟨h1,h2⟩:=av hx;cases h2;cases hv;refine ⟨_,?_,.bool _⟩;show same (sel (AP op) (some (SV.bool _)) none)=_;rw[h1];rfl
 ·obtain ⟨h1,h2⟩:=av hx;cases h2;cases hv;refine ⟨_,?_,.int _ _⟩;show same (sel (isNeg op) (some (SV.int _ _)) none)=_;rw[h1];rfl
def F7:UD→AV→Option AV
 | .int k,.int _ n=>some (.int k (k.wrap n))
 | .string,.str s=>some (.str s)
 |_,_=>none
theorem adT {src dst:TypeId} {a:Operand} {x y:AV} {i i2:TI} (hi:E.ty.get src=some i) (hi2:E.ty.get dst=some i2) (ha:aJ s.ts a=y) (hx:F7 i2.desc y=some x):aP E B (.convert src dst a) s s x none:=aP.un (f:=fun _ v=>same (Br E src dst v)) (fun _ _ _=>rfl) ha (fun e=>by subst e;unfold F7 at hx;split at hx<;>simp_all) fun {F g φ tm h v} r hv=>by
 have key:∃u,Gc i2.desc v=some u∧VA F g u x:=by
  generalize i2.desc=d at hx;unfold F7 at hx;split at hx
  ·cases hx;cases hv;exact ⟨_,rfl,.int _ _⟩
  ·cases hx;cases hv;exact ⟨_,rfl,.str _⟩
  ·cases hx
 obtain ⟨u,u1,u2⟩:=key;refine ⟨u,?_,u2⟩;show same (aF (E.ty.get src) (E.ty.get dst) fun _ i=>Gc i.desc v)=_
 rw[hi,hi2];show same (Gc i2.desc v)=_;rw[u1];rfl
theorem aft {t:TypeId} {a:Operand} {i:TI} {x:AV} (hi:E.ty.get t=some i) (hd:ny i.desc=false) (ha:aJ s.ts a=x) (hx:x≠ .undef):aP E B (.makeInterface t a) s s (.ifc t x) none:=aP.un (f:=fun _=>Ar E t) (fun _ _ _=>rfl) ha hx fun {F g φ tm h v} r hv=>by
 refine ⟨.ifc t v,?_,.ifc t hv⟩;show ai (E.ty.get t) (fun i=>sel (ny i.desc) none (some (SV.ifc t v,[])))=_
 rw[hi];show sel (ny i.desc) none _=_;rw[hd]
theorem adR {f:FuncId} {a c:Array Operand} {xs ys:List AV} (ha:fQ s.ts a.toList=xs) (hx:eR xs=true) (hc:fQ s.ts c.toList=ys) (hy:eR ys=true):aP E B (.makeFunc (.func f) a c) s s (.fn f xs ys) none:=aP.pure fun {F g φ tm h new} r=>by
 subst ha;subst hc;obtain ⟨vs,v1,v2⟩:=r.bF hx;obtain ⟨ws,w1,w2⟩:=r.bF hy;refine ⟨.fn (.func f) vs ws,?_,.fn f v2 w2⟩;show sel (Dp (.func f)) (aF (bF tm a.toList) (bF tm c.toList) fun l m=>some (SV.fn (.func f) l m,[])) none=_
 rw[v1,w1];rfl
theorem aP.len1 {c:Call} {a:Operand} {t:TypeId} {i:TI} {x y:AV} (hc:c.callee= .builtin .len) (ha':c.args.toList= [a]) (ht':c.argTypes.toList= [t]) (hi:E.ty.get t=some i) (ha:aJ s.ts a=y) (hy:y≠ .undef)
  (hf:∀{F:Hf} {g:Gb} {φ:Nat→List Nat} {tm:Tf} {h:Hs} {v:SV},Rel B F g φ s tm h→VA F g v y→∃u,mS i.desc v h.hp.get=some u∧VA F g u x):aP E B (.call c) s s x none:=aP.pure fun {F g φ tm h new} r=>by
 obtain ⟨v,v1,v2⟩:=r.val ha hy;obtain ⟨u,u1,u2⟩:=hf r v2;refine ⟨u,?_,u2⟩;show fJ E tm h.hp.get new c=_;unfold fJ;rw[hc];show ai (bF tm c.args.toList) (fun aa=>gd E h.hp.get new .len aa c.argTypes.toList)=_
 rw[ha',ht'];have e1:bF tm [a]=some [v]:=by
  show aF (aI tm a) (some []) (fun v l=>some (v::l))=_
  rw[v1];rfl
 rw[e1];show ai (E.ty.get t) (fun i=>same (mS i.desc v h.hp.get))=_
 rw[hi];show same (mS i.desc v h.hp.get)=_;rw[u1];rfl
def PV (bs:List (Nat×Bx)):UD→AV→Option Int
 | .slice _,.slice _ _ rows=>some (rows.length:Int)
 | .slice _,.sln _ _ rows=>some (rows.length:Int)
 | .slice _,.slf _ _ rows=>some (rows.length:Int)
 | .slice _,.slx _ _ rows=>some (rows.length:Int)
 | .slice _,.aR=>some 0
 | .slice _,.ms _ _ _ n=>some (n:Int)
 | .string,.str b=>some (b.size:Int)
 | .map _ _,.mp K=>(match lk K bs with|some (.map es)=>some (es.length:Int)|_=>none)
 | .map _ _,.cA=>some 0
 |_,_=>none
theorem afs {c:Call} {a:Operand} {t:TypeId} {i:TI} {n:Int} {y:AV} (hc:c.callee= .builtin .len) (ha':c.args.toList= [a]) (ht':c.argTypes.toList= [t]) (hi:E.ty.get t=some i) (ha:aJ s.ts a=y) (hn:PV s.bs i.desc y=some n):aP E B (.call c) s s (.int .i64 n) none:=by
 refine aP.len1 hc ha' ht' hi ha (fun e=>by subst e;unfold PV at hn;split at hn<;>simp_all) fun {F g φ tm h v} r hv=> ?_
 generalize i.desc=d at hn;have key:∀{n':Nat},oi v=some n'→n=(n':Int)→∃u,ai (oi v) (fun n=>some (kQ n))=some u∧VA F g u (.int .i64 n):=fun {n'} h1 h2=>by
  rw[h1,h2];exact ⟨_,rfl,.int _ _⟩
 unfold PV at hn;split at hn
 ·cases hn;rename_i rows;have:oi v=some rows.length:=by cases hv with|jN=>rfl|slice hF hc hn=>rw[hn];rfl
  exact key this rfl
 ·cases hn;rename_i rows;have:oi v=some rows.length:=by cases hv with|og=>rfl|sln hF hc hn=>rw[hn];rfl
  exact key this rfl
 ·cases hn;rename_i rows;have:oi v=some rows.length:=by cases hv with|rS=>rfl|slf hF hn=>rw[hn];rfl
  exact key this rfl
 ·cases hn;rename_i rows;have:oi v=some rows.length:=by cases hv with|mI=>rfl|rR=>rfl|slx hF hc hn=>rw[hn];rfl
  exact key this rfl
 ·cases hn;cases hv;exact key rfl rfl
 ·cases hn;rename_i n0;have:oi v=some n0:=by cases hv<;>rfl
  exact key this rfl
 ·cases hn;cases hv;exact ⟨_,rfl,.int _ _⟩
 ·split at hn
  ·rename_i K _ es hb;cases hn;cases hv;have q:=r.bx K _ hb;generalize φ K=fp at q;cases q with
   | @map _ ms cl hh hk hv=>
   refine ⟨kQ ms.length,?_,?_⟩
   ·show ai (ji (h.hp.get (g.ρ K))) (fun p=>some (kQ p.1.length))=_
    rw[hh];rfl
   ·have:ms.length=es.length:=by simpa using hk.length
    rw[this];exact .int _ _
  ·cases hn
 ·cases hn;cases hv;exact ⟨_,rfl,.int _ _⟩
 ·cases hn
def YJ (mx:Bool):AV→AV→Option AV
 | .int k m,.int k' n=>sel (bV k k') (some (.int k (sel mx (if m<n then n else m) (if n<m then n else m)))) none
 |_,_=>none
theorem Wo {c:Call} {a b:Operand} {mx:Bool} {x y z:AV} (hc:c.callee= .builtin (sel mx .max .min)) (ha':c.args.toList= [a,b]) (ha:aJ s.ts a=x) (hb:aJ s.ts b=y) (hz:YJ mx x y=some z):aP E B (.call c) s s z none:=aP.pure fun {F g φ tm h new} r=>by
 cases x<;>first|(cases hz;done)|skip
 cases y<;>first|(cases hz;done)|skip
 obtain ⟨hk,hz⟩:=av hz;cases hz;obtain ⟨v,v1,v2⟩:=r.val ha (by simp)
 obtain ⟨w,w1,w2⟩:=r.val hb (by simp)
 rename_i k m k' n;have e1:bF tm [a,b]=some [v,w]:=by
  show aF (aI tm a) (aF (aI tm b) (some []) (fun v l=>some (v::l))) (fun v l=>some (v::l))=_
  rw[v1,w1];rfl
 cases v2;cases w2;refine ⟨_,?_,.int _ _⟩;show fJ E tm h.hp.get new c=_;unfold fJ;rw[hc];show ai (bF tm c.args.toList) (fun aa=>gd E h.hp.get new (sel mx .max .min) aa c.argTypes.toList)=_
 rw[ha',e1];show gd E h.hp.get new (sel mx .max .min) [.int k (.lit m),.int k' (.lit n)] c.argTypes.toList=_;cases mx
 ·show same (ai (some (mf n m)) fun r=>some (SV.int k (sel r (.lit n) (.lit m))))=_
  show some (SV.int k (sel (mf n m) (.lit n) (.lit m)),[])=some (SV.int k (.lit (if n<m then n else m)),[])
  rw[lE,aC];by_cases hc:n<m
  ·simp[hc]
  ·simp[hc]
 ·show same (ai (some (mf m n)) fun r=>some (SV.int k (sel r (.lit n) (.lit m))))=_
  show some (SV.int k (sel (mf m n) (.lit n) (.lit m)),[])=some (SV.int k (.lit (if m<n then n else m)),[])
  rw[lE,aC];by_cases hc:m<n
  ·simp[hc]
  ·simp[hc]
theorem ju {α:Type} {s:Nat}:∀{rows:List (List α)},(∀r∈rows,r.length=s)→∀l,(rows.drop l).flatten=rows.flatten.drop (l*s)
 |_,_,0=>by simp
 | [],_,l+1=>by simp
 |r::rows,hu,l+1=>by
  have:=ju (rows:=rows) (fun q hq=>hu q (by simp[hq])) l
  rw[List.drop_succ_cons,this,List.flatten_cons,Nat.add_mul,Nat.one_mul,Nat.add_comm,←List.drop_drop];rw[List.drop_left' (hu r (by simp))]
theorem iM {α:Type} {s:Nat}:∀{rows:List (List α)},(∀r∈rows,r.length=s)→∀l,(rows.take l).flatten=rows.flatten.take (l*s)
 |_,_,0=>by simp
 | [],_,l+1=>by simp
 |r::rows,hu,l+1=>by
  have:=iM (rows:=rows) (fun q hq=>hu q (by simp[hq])) l
  have hr:=hu r (by simp)
  rw[List.take_succ_cons,List.flatten_cons,this,List.flatten_cons,Nat.add_mul,Nat.one_mul,Nat.add_comm];rw[←hr,List.take_length_add_append]
theorem qm {α:Type} {s:Nat}:∀{rows:List (List α)},(∀r∈rows,r.length=s)→rows.flatten.length=rows.length*s
 | [],_=>by simp
 |r::rows,hu=>by
  rw[List.flatten_cons,List.length_append,qm (fun q hq=>hu q (by simp[hq])),hu r (by simp),List.length_cons,Nat.add_mul,Nat.one_mul,Nat.add_comm]
def kX {α:Type} (rows:List α) (n:Int):Option α:=if 0≤n then rows[n.toNat]? else none
theorem yv {α:Type} {rows:List α} {n:Int} {R:α} (hg:kX rows n=some R):∃k:Nat,n=k∧rows[k]? =some R:=by
 unfold kX at hg;split at hg
 ·exact ⟨n.toNat,by omega,hg⟩
 ·cases hg
def kZ:AV→Option (TypeId×Nat×List (List AV))
 | .slice e s rows=>some (e,s,rows)
 | .sln e s rows=>some (e,s,rows)
 | .slf e s rows=>some (e,s,rows)
 | .slx e s rows=>some (e,s,rows)
 |_=>none
theorem oX {v:SV} {x:AV} {e:TypeId} {sz:Nat} {rows:List (List AV)} (q:VA F g v x) (hx:kZ x=some (e,sz,rows)):(rows= []∧(v= .aR∨v= .sle))∨∃id off c e' svs,v= .sl id off rows.length c∧su e rows.length c∧cD (F id) off (rows.length*sz)=some (e',svs)∧(∀r∈rows,r.length=sz)∧off+rows.length*sz≤svs.length∧VAs F .no ((svs.drop off).take (rows.length*sz)) rows.flatten:=by
 unfold kZ at hx;split at hx
 ·cases hx;cases q with
  |jN=>exact .inl ⟨rfl,.inl rfl⟩
  |slice hF hc hn hu hl h=>subst hn;exact .inr ⟨_,_,_,_,_,rfl,hc,hF,hu,hl,h⟩
 ·cases hx;cases q with
  |og=>exact .inl ⟨rfl,.inl rfl⟩
  |sln hF hc hn hz hu hl h=>subst hn;exact .inr ⟨_,_,_,_,_,rfl,hc,hF,hu,hl,h⟩
 ·cases hx;cases q with
  |rS=>exact .inl ⟨rfl,.inl rfl⟩
  |slf hF hn hu hl h=>subst hn;exact .inr ⟨_,_,_,_,_,rfl,Nat.le_refl _,hF,hu,hl,h⟩
 ·cases hx;cases q with
  |mI=>exact .inl ⟨rfl,.inl rfl⟩
  |rR=>exact .inl ⟨rfl,.inr rfl⟩
  |slx hF hc hn hu hl h=>subst hn;exact .inr ⟨_,_,_,_,_,rfl,hc,hF,hu,hl,h⟩
 ·cases hx
theorem adG {id off s:Nat} {e:TypeId} {svs:List SV} {rows:List (List AV)} {k:Nat} {R:List AV} (hF:cD (F id) off (rows.length*s)=some (e,svs)) (hu:∀r∈rows,r.length=s) (hl:off+rows.length*s≤svs.length) (hv:VAs F .no ((svs.drop off).take (rows.length*s)) rows.flatten) (hk:rows[k]? =some R):k<rows.length∧VA F g (.ptr id (off+k*s)) (.imm R):=by
 have hlt:k<rows.length:=(List.getElem?_eq_some_iff.1 hk).1;have hR:R.length=s:=hu R (List.mem_of_getElem? hk);have hks:k*s+s≤rows.length*s:=by
  have:(k+1)*s≤rows.length*s:=Nat.mul_le_mul_right _ (by omega)
  rw[Nat.add_mul,Nat.one_mul] at this;exact this
 refine ⟨by omega,.imm (kK hF (by omega) (by rw[hR];omega)) (by rw[hR];omega) ?_⟩
 have e:R=(rows.flatten.drop (k*s)).take s:=by
  rw[←ju hu,List.drop_eq_getElem_cons hlt,List.flatten_cons];have he:rows[k]=R:=(List.getElem?_eq_some_iff.1 hk).2;rw[he,List.take_left' hR]
 have:=(hv.drop (k*s)).take s;rw[←e,List.drop_take,List.take_take,List.drop_drop,Nat.min_eq_left (by omega)] at this
 rw[hR];exact this
def elemOf (E:Env) (t:TypeId):Option TI:=ai (E.ty.get t) fun i=>ai (je i.desc) fun e=>E.ty.get e
theorem JY {t:TypeId} {ie:TI} {id off m k:Nat} {c:Cp} (he:elemOf E t=some ie) (hk:k<m):same (gQ E t (.sl id off m c) k)=some (.ptr id (off+k*ie.size),[]):=by
 obtain ⟨i,hi,he⟩:=af he;obtain ⟨e,hd,he⟩:=af he;have hd:=jT hd;unfold gQ;rw[hi];show same (AS i.desc E (.sl id off m c) k)=_;rw[hd];show same (pF E e id off m k)=_;unfold pF;rw[he,aC,if_pos ((aX _ _).2 hk)];rfl
theorem YA {t:TypeId} {a ix:Operand} {ie:TI} {sz:Nat} {rows:List (List AV)} {kd:IntKind} {n:Int} {R:List AV} {y:AV} {e:TypeId} (he:elemOf E t=some ie) (hsz:ie.size=sz) (ha:aJ s.ts a=y) (hy:kZ y=some (e,sz,rows)) (hix:aJ s.ts ix= .int kd n) (hR:kX rows n=some R):aP E B (.indexAddr t a ix) s s (.imm R) none:=aP.bi (f:=fun _ v u=>ai (eX u) fun k=>same (gQ E t v k)) (fun _ _ _=>rfl) ha (fun e=>by subst e;cases hy) hix (by simp) fun {F g φ tm h v w} r hv hw=>by
 obtain ⟨k,hk,hRk⟩:=yv hR;subst hk;cases hw;rcases oX hv hy with ⟨rfl,_⟩|⟨id,off,c,e',svs,rfl,_,hF,hu,hl,h⟩
 ·cases hRk
 ·obtain ⟨h1,h2⟩:=adG (g:=g) hF hu hl h hRk;refine ⟨_,?_,h2⟩;show same (gQ E t (.sl id off rows.length c) k)=_;rw[JY he h1,hsz]
theorem MQ {t:TypeId} {a ix:Operand} {ie:TI} {K sz lo n k:Nat} {kd:IntKind} {m:Int} (he:elemOf E t=some ie) (hsz:ie.size=sz) (ha:aJ s.ts a= .ms K sz lo n) (hix:aJ s.ts ix= .int kd m) (hm:m=(k:Int)) (hk:k<n):aP E B (.indexAddr t a ix) s s (.el K sz (lo+k) 0) none:=aP.bi (f:=fun _ v u=>ai (eX u) fun k=>same (gQ E t v k)) (fun _ _ _=>rfl) ha (by simp) hix (by simp) fun {F g φ tm h v w} r hv hw=>by
 subst hm;cases hw;have hv':v=SV.sl (g.ρ K) (lo*sz) n (kN (g.κ K) lo)∧g.β K=true:=by
  cases hv with
  |msN=>omega
  |msE=>omega
  |ms _ _ _ hb0=>exact ⟨rfl,hb0⟩
 obtain ⟨rfl,hb0⟩:=hv';refine ⟨_,JY he hk,?_⟩;rw[hsz,←Nat.add_mul];exact .el sz (lo+k) 0 hb0
theorem ND {sz j f n:Nat} {α:Type} {Q:List (List α)} {R:List α} (hu:∀r∈Q,r.length=sz) (hj:Q[j]? =some R) (hf:f+n≤sz):(Q.flatten.drop (j*sz+f)).take n=(R.drop f).take n:=by
 have hlt:j<Q.length:=(List.getElem?_eq_some_iff.1 hj).1;have hR:R.length=sz:=hu R (List.mem_of_getElem? hj);have he:Q[j]=R:=(List.getElem?_eq_some_iff.1 hj).2;rw[←List.drop_drop,←ju hu,List.drop_eq_getElem_cons hlt,List.flatten_cons,he,List.drop_append,List.take_append_of_le_length];rw[List.length_drop];omega
theorem PC {t:TypeId} {a:Operand} {i:TI} {K sz j f:Nat} {z:Bool} {e:TypeId} {Q:List (List AV)} {R:List AV} {x:AV} (hi:E.ty.get t=some i) (ha:aJ s.ts a= .el K sz j f) (hb:lk K s.bs=some (.rows z e sz Q)) (hj:Q[j]? =some R) (hf:Nat.ble (Nat.add f i.size) sz=true) (hx:gy i ((R.drop f).take i.size) 0=some x) (hk:(bW x).isEmpty=true):aP E B (.load t a) s s x none:=aP.un (f:=fun hp v=>same (iJ E hp t v)) (fun _ _ _=>rfl) ha (by simp) fun {F g φ tm h v} r hv=>by
 cases hv;have hf:f+i.size≤sz:=Nat.le_of_ble_eq_true hf;have q:=r.bx K _ hb;generalize φ K=fp at q;cases q with
 |df=>cases hj
 | @rows _ _ _ _ svs hb' hh hz hu hc q=>
 have hl:=gj hc;have hlt:j<Q.length:=(List.getElem?_eq_some_iff.1 hj).1;have hjs:j*sz+sz≤Q.length*sz:=by
  have:(j+1)*sz≤Q.length*sz:=Nat.mul_le_mul_right _ (by omega)
  rw[Nat.add_mul,Nat.one_mul] at this;exact this
 have q1:=(q.drop (j*sz+f)).take i.size;rw[ND hu hj hf,List.drop_take,List.take_take,Nat.min_eq_left (by omega)] at q1
 obtain ⟨u,u1,u2⟩:=jU q1 hx;exact ⟨u,sK hi (jv hh) (yN u1 (by omega)),u2.gf hk⟩
theorem MN {t:TypeId} {a:Operand} {i:TI} {K sz j f:Nat} {e:TypeId} {Q:List (List AV)} {R:List AV} {x x0:AV} {i0:Nat} (hi:E.ty.get t=some i) (ha:aJ s.ts a= .el K sz j f) (hb:lk K s.bs=some (.hole e sz Q i0 x0)) (hj:Q[j]? =some R) (hf:Nat.ble (Nat.add f i.size) sz=true) (hx:gy i ((R.drop f).take i.size) 0=some x) (hk:(bW x).isEmpty=true):aP E B (.load t a) s s x none:=aP.un (f:=fun hp v=>same (iJ E hp t v)) (fun _ _ _=>rfl) ha (by simp) fun {F g φ tm h v} r hv=>by
 cases hv;have hf:f+i.size≤sz:=Nat.le_of_ble_eq_true hf;have q:=r.bx K _ hb;generalize φ K=fp at q;cases q with
 | @hole _ _ _ _ _ svs v0 hb' hh hu hc q hi0 hv0 hx0=>
 have hl:=gj hc;have hlt:j<Q.length:=(List.getElem?_eq_some_iff.1 hj).1;have hjs:j*sz+sz≤Q.length*sz:=by
  have:(j+1)*sz≤Q.length*sz:=Nat.mul_le_mul_right _ (by omega)
  rw[Nat.add_mul,Nat.one_mul] at this;exact this
 have q1:=(q.drop (j*sz+f)).take i.size;rw[ND hu hj hf,List.drop_take,List.take_take,Nat.min_eq_left (by omega)] at q1
 obtain ⟨u,u1,u2⟩:=jU q1 hx;exact ⟨u,sK hi (jv hh) (yN u1 (by omega)),u2.gf hk⟩
theorem MO {t:TypeId} {a:Operand} {i:TI} {K sz j f:Nat} {e:TypeId} {Q:List (List AV)} {x:AV} (hi:E.ty.get t=some i) (hg:eU i.desc=false) (ha:aJ s.ts a= .el K sz j f) (hb:lk K s.bs=some (.hole e sz Q (j*sz+f) x)):aP E B (.load t a) s s x none:=aP.un (f:=fun hp v=>same (iJ E hp t v)) (fun _ _ _=>rfl) ha (by simp) fun {F g φ tm h v} r hv=>by
 cases hv;have q:=r.bx K _ hb;generalize φ K=fp at q;cases q with
 | @hole _ _ _ _ _ svs v0 hb' hh hu hc q hi0 hv0 hx0=>
 refine ⟨v0,sK hi (jv hh) ?_,hx0⟩;unfold cO;rw[hg];exact hv0
end
section
variable {F F':Hf} {g g':Gb} {B:Bs} {φ:Nat→List Nat} {s s' s1:LS} {tm:Tf} {h:Hs} {hp:Hf} {E:Env} {nt:Nat} {all l:List Oper}
def jR:AV→Option (List AV)
 | .agg cs=>some cs
 | .tup _=>none
 | .undef=>none
 |x=>some [x]
theorem VAs.one {v:SV} {x:AV} (h:VA F g v x):VAs F g [v] [x]:=.cons h .nil
theorem m5 {v:SV} {y:AV} {xs:List AV} (q:VA F g v y) (hc:jR y=some xs):∃cs,v.cells=some cs∧VAs F g cs xs:=by
 cases q with
 |agg q=>cases hc;exact ⟨_,rfl,q⟩
 |tup=>cases hc
 |undef=>cases hc
 |_=>cases hc;exact ⟨_,rfl,.one (by constructor<;>assumption)⟩
def OP:SV→AV
 | .bool b=>.bool b
 | .int k (.lit n)=>.int k n
 | .str s=>.str s
 | .cz=>.cz
 | .aR=>.aR
 | .cA=>.cA
 | .cK=>.cK
 | .cg=>.cg
 |_=>.undef
theorem adq (v:SV):VA F g v (OP v):=by
 unfold OP;split<;>constructor
def eg:List SV→List AV
 | []=> []
 |v::l=>OP v::eg l
theorem jw:∀(l:List SV),VAs F g l (eg l)
 | []=>.nil
 |v::l=>.cons (adq v) (jw l)
def bZ (cs:List AV) (off:Nat) (xs:List AV):List AV:=cs.take off++xs++cs.drop (Nat.add off xs.length)
theorem js {vs:List SV} {xs:List AV} {ws:List SV} {ys:List AV} (h:VAs F g vs xs) (k:VAs F g ws ys) (off:Nat):VAs F g (bI vs off ws) (bZ xs off ys):=h.bI k off
def sH (ts:List (Nat×AV)):List (Nat×Operand)→Option (List (Nat×List AV))
 | []=>some []
 |p::rest=>aF (jR (aJ ts p.2)) (sH ts rest) fun cs l=>some ((p.1,cs)::l)
def tZ (place:Nat→Option (Nat×Nat)) (cs:List AV):List (Nat×List AV)→Option (List AV)
 | []=>some cs
 |p::rest=>ai (place p.1) fun q=>sel (Nat.beq p.2.length q.2&&Nat.ble (Nat.add q.1 q.2) cs.length) (tZ place (bZ cs q.1 p.2) rest) none
inductive PVs (F:Hf) (g:Gb):List (Nat×List SV)→List (Nat×List AV)→Prop
 |nil:PVs F g [] []
 |cons {j vs xs l m} (h:VAs F g vs xs) (t:PVs F g l m):PVs F g ((j,vs)::l) ((j,xs)::m)
theorem yM (r:Rel B F g φ s tm h):∀{l:List (Nat×Operand)} {m:List (Nat×List AV)},sH s.ts l=some m→∃k,ep tm l=some k∧PVs F g k m
 | [],_,hm=>by cases hm;exact ⟨[],rfl,.nil⟩
 |p::rest,m,hm=>by
  obtain ⟨cs,m',h1,h2,h3⟩:=ay hm;cases h3;obtain ⟨v,v1,v2⟩:=r.val (x:=p.2) rfl (fun e=>by rw[e] at h1;cases h1)
  obtain ⟨ws,w1,w2⟩:=m5 v2 h1;obtain ⟨k,k1,k2⟩:=yM r h2;refine ⟨(p.1,ws)::k,?_,.cons w2 k2⟩;show ai (aI tm p.2) (fun v=>aF v.cells (ep tm rest) fun cs l=>some ((p.1,cs)::l))=_
  rw[v1];show aF v.cells (ep tm rest) (fun cs l=>some ((p.1,cs)::l))=_
  rw[w1,k1];rfl
theorem xd {place:Nat→Option (Nat×Nat)}:∀{k:List (Nat×List SV)} {m:List (Nat×List AV)} {vs:List SV} {xs ys:List AV},PVs F g k m→VAs F g vs xs→tZ place xs m=some ys→∃ws,fT place vs k=some ws∧VAs F g ws ys
 |_,_,vs,_,_,.nil,hv,hy=>by cases hy;exact ⟨vs,rfl,hv⟩
 |_,_,vs,xs,ys,.cons (j:=j) (vs:=pv) (l:=kt) h t,hv,hy=>by
  obtain ⟨q,h1,hy⟩:=af hy;obtain ⟨h2,hy⟩:=av hy;obtain ⟨ws,w1,w2⟩:=xd t (js hv h q.1) hy;refine ⟨ws,?_,w2⟩;show ai (place j) (fun q=>sel (Nat.beq pv.length q.2&&Nat.ble (Nat.add q.1 q.2) vs.length) (fT place (bI vs q.1 pv) kt) none)=_
  rw[h1];show sel (Nat.beq pv.length q.2&&Nat.ble (Nat.add q.1 q.2) vs.length) (fT place (bI vs q.1 pv) kt) none=_;rw[h.length,hv.length,h2];exact w1
def KU (E:Env) (z:List AV) (pcs:List (Nat×List AV)):UD→Option (List AV)
 | .array _ e=>ai (E.ty.get e) fun ie=>tZ (jh ie.size) z pcs
 | .struct fs=>tZ (Aj E fs) z pcs
 |_=>none
theorem YC {t:TypeId} {parts:Array (Nat×Operand)} {i:TI} {m:List (Nat×List AV)} {ys:List AV} (hi:E.ty.get t=some i) (hm:sH s.ts parts.toList=some m) (hy:KU E (eg i.zero) m i.desc=some ys):aP E B (.build t parts) s s (.agg ys) none:=aP.pure fun {F g φ tm h new} r=>by
 obtain ⟨k,k1,k2⟩:=yM r hm;have key:∃ws,nZ E t k=some (.agg ws)∧VAs F g ws ys:=by
  unfold nZ;rw[hi];show ∃ws,Xo i.desc E i.zero k=some (.agg ws)∧_;generalize i.desc=d at hy;unfold KU at hy;split at hy
  ·obtain ⟨ie,hie,hy⟩:=af hy;obtain ⟨ws,w1,w2⟩:=xd k2 (jw (F:=F) (g:=g) i.zero) hy;refine ⟨ws,?_,w2⟩;show ai (E.ty.get _) (fun ie=>wm (fT (jh ie.size) i.zero k))=_
   rw[hie];show wm (fT (jh ie.size) i.zero k)=_;rw[w1];rfl
  ·obtain ⟨ws,w1,w2⟩:=xd k2 (jw (F:=F) (g:=g) i.zero) hy;refine ⟨ws,?_,w2⟩;show wm (fT (Aj E _) i.zero k)=_;rw[w1];rfl
  ·cases hy
 obtain ⟨ws,w1,w2⟩:=key;refine ⟨.agg ws,?_,.agg w2⟩;show ai (ep tm parts.toList) (fun pcs=>same (nZ E t pcs))=_
 rw[k1];show same (nZ E t k)=_;rw[w1];rfl
theorem Ot {K id:Nat} {c:Cp} {e:TypeId} {svs:List SV} {xs:List AV} (hf:VAs F (g.at K id c) svs xs):∀hp':Hf,hp' id=some (.cells e svs)→du F (g.at K id c) hp' K (.flat e xs) [id]:=fun hp' hh=>by
 have:=du.flat (F:=F) (g:=g.at K id c) (h:=hp') (K:=K) (e:=e) (cs:=xs) (svs:=svs) (by rw[lz];exact hh) hf
 rwa[lz] at this
theorem abI {K id:Nat} {c:Cp} {off:Nat}:VA F (g.at K id c) (.ptr id off) (.loc K off):=by
 have:=VA.loc (F:=F) (g:=g.at K id c) K off;rwa[lz] at this
theorem PQ {K id sz n:Nat} {c:Cp}:VA F (g.at K id c) (.sl id 0 n c) (.ms K sz 0 n):=by
 have:=VA.ms (F:=F) (g:=g.at K id c) (K:=K) sz 0 n adj;rw[lz,adi,Nat.zero_mul] at this;cases c<;>exact this
theorem xj {K id sz:Nat} {c:Cp} {z:Bool} {e:TypeId} {svs:List SV} {Q:List (List AV)} (hz:z=true→Q≠ []) (hu:∀r∈Q,r.length=sz) (hc:uH e sz Q.length svs.length c) (q:VAs F .no (svs.take (Q.length*sz)) Q.flatten):∀hp':Hf,hp' id=some (.cells e svs)→du F (g.at K id c) hp' K (.rows z e sz Q) [id]:=fun hp' hh=>by
 have:=du.rows (F:=F) (g:=g.at K id c) (h:=hp') (K:=K) (z:=z) (e:=e) adj (by rw[lz];exact hh) hz hu (by rw[adi];exact hc) q
 rwa[lz] at this
theorem afw {K:Nat} {e:TypeId} {a:Operand} {y:AV} {xs:List AV} (ha:aJ s.ts a=y) (hc:jR y=some xs) (hk:s.free K) (hp:B.pk K=false) (hkx:K∉cI xs):aP E B (.box e a) s (s.set K (.flat e xs)) (.loc K 0) (some (K,true)):=aP.lay hk hp fun {F g φ tm h new} r=>by
 obtain ⟨v,h1,h2⟩:=r.val ha (fun e=>by subst e;cases hc)
 obtain ⟨cs,c1,c2⟩:=m5 h2 hc;refine ⟨.ptr new 0,.cells e cs,?_,abI,Ot (c2.gb (aex hkx))⟩;show one tm a (wV new e)=_;unfold one;rw[h1];show wV new e v=_;unfold wV;rw[c1];rfl
theorem YD {K:Nat} {e:TypeId} {i:TI} (hi:E.ty.get e=some i) (hk:s.free K) (hp:B.pk K=false):aP E B (.alloc e) s (s.set K (.flat e (eg i.zero))) (.loc K 0) (some (K,true)):=aP.lay hk hp fun {F g φ tm h new} r=>by
 refine ⟨.ptr new 0,.cells e i.zero,?_,abI,Ot (jw _)⟩;show Dk E new e=_;unfold Dk;rw[hi];rfl
def mw (sz:Nat):Nat→List AV→List (List AV)
 |0,_=> []
 |n+1,cs=>cs.take sz::mw sz n (cs.drop sz)
theorem KQ {sz:Nat}:∀{n:Nat} {cs:List AV},cs.length=n*sz→(mw sz n cs).length=n∧(∀r∈mw sz n cs,r.length=sz)∧(mw sz n cs).flatten=cs
 |0,cs,hl=>by
  rw[Nat.zero_mul] at hl;rw[List.length_eq_zero_iff.1 hl];exact ⟨rfl,fun r hr=>(by cases hr),rfl⟩
 |n+1,cs,hl=>by
  rw[Nat.add_mul,Nat.one_mul] at hl;obtain ⟨a,b,c⟩:=KQ (sz:=sz) (n:=n) (cs:=cs.drop sz) (by rw[List.length_drop];omega)
  refine ⟨by show (mw sz n (cs.drop sz)).length+1=_;rw[a],fun r hr=> ?_,?_⟩
  ·rcases List.mem_cons.1 (show r∈cs.take sz::mw sz n (cs.drop sz) from hr) with rfl|hr
   ·rw[List.length_take];omega
   ·exact b r hr
  ·show cs.take sz++(mw sz n (cs.drop sz)).flatten=cs;rw[c,List.take_append_drop]
def tA (z:List AV):Nat→List AV
 |0=> []
 |n+1=>z++tA z n
theorem Ag {z:List SV} {x:List AV} (hz:VAs F g z x):∀n,VAs F g (rep z n) (tA x n)
 |0=>.nil
 |n+1=>hz.append (Ag hz n)
theorem EY {place:Nat→Option (Nat×Nat)}:∀{m:List (Nat×List AV)} {xs ys:List AV},tZ place xs m=some ys→ys.length=xs.length
 | [],_,_,hy=>by cases hy;rfl
 |p::rest,xs,ys,hy=>by
  obtain ⟨q,h1,hy⟩:=af hy;obtain ⟨h2,hy⟩:=av hy;rw[EY hy];rw[Bool.and_eq_true] at h2;have e1:p.2.length=q.2:=(beq_iff _ _).1 h2.1;have e2:q.1+q.2≤xs.length:=Nat.le_of_ble_eq_true h2.2;unfold bZ;rw[List.length_append,List.length_append,List.length_take,List.length_drop,show Nat.add q.1 p.2.length=q.1+p.2.length from rfl];omega
theorem yz {ie:TI} (h:da ie=true):ie.zero.length=ie.size:=by
 unfold da at h;rw[Bool.and_eq_true,Bool.and_eq_true] at h;exact (beq_iff _ _).1 h.2.2
theorem De (z:List AV):∀n,(tA z n).length=n*z.length
 |0=>by simp[tA]
 |n+1=>by show (z++tA z n).length=_;rw[List.length_append,De z n,Nat.add_mul,Nat.one_mul,Nat.add_comm]
theorem oB:∀l:List SV,(eg l).length=l.length
 | []=>rfl
 |v::l=>by show (eg l).length+1=_;rw[oB l];rfl
def fU (E:Env) (t:TypeId):Option (TypeId×TI):=ai (E.ty.get t) fun i=>ai (je i.desc) fun e=>ai (E.ty.get e) fun ie=>some (e,ie)
theorem gV {t:TypeId} {p:TypeId×TI} (h:fU E t=some p):∃i,E.ty.get t=some i∧je i.desc=some p.1∧E.ty.get p.1=some p.2:=by
 obtain ⟨i,hi,h⟩:=af h;obtain ⟨e,he,h⟩:=af h;obtain ⟨ie,hie,h⟩:=af h;cases h;exact ⟨i,hi,he,hie⟩
theorem Fh {K:Nat} {t:TypeId} {len:Nat} {parts:Array (Nat×Operand)} {p:TypeId×TI} {m:List (Nat×List AV)} {ys:List AV} (hp':fU E t=some p) (hok:(da p.2&&Nat.ble (Nat.mul len p.2.size) 16777216)=true) (hm:sH s.ts parts.toList=some m)
  (hy:tZ (jh p.2.size) (tA (eg p.2.zero) len) m=some ys) (hk:s.free K) (hp:B.pk K=false) (hky:(cI ys).isEmpty=true):aP E B (.buildSlice t len parts) s (s.set K (.rows false p.1 p.2.size (mw p.2.size len ys))) (.ms K p.2.size 0 len) (some (K,true)):=aP.lay hk hp fun {F g φ tm h new} r=>by
 obtain ⟨i,hi,he,hie⟩:=gV hp';obtain ⟨k,k1,k2⟩:=yM r hm;obtain ⟨ws,w1,w2⟩:=xd k2 (Ag (jw (F:=F) (g:=g) p.2.zero) len) hy;have hok1:=(Bool.and_eq_true_iff.1 hok).1;have hlen:ys.length=len*p.2.size:=by rw[EY hy,De,oB,yz hok1]
 obtain ⟨c1,c2,c3⟩:=KQ hlen;refine ⟨.sl new 0 len (.k len),.cells p.1 ws,?_,PQ,xj (fun e=>by cases e) c2 (by rw[c1];exact ⟨Nat.le_refl _,by rw[w2.length,hlen]⟩) ?_⟩
 ·show ai (ep tm parts.toList) (fun pcs=>hX E new t len pcs)=_
  rw[k1];show hX E new t len k=_;unfold hX;rw[hi];show ai (je i.desc) _=_;rw[he];show ai (E.ty.get p.1) _=_;rw[hie];show sel (da p.2&&Nat.ble (Nat.mul len p.2.size) 16777216) (ai (fT (jh p.2.size) (rep p.2.zero len) k) fun cs=>some (SV.sl new 0 len (.k len),[(new,some (SO.cells p.1 cs))])) none=_
  rw[hok,w1];rfl
 ·rw[c1,c3,List.take_of_length_le (by rw[w2.length,hlen];exact Nat.le_refl _)]
  exact w2.gf hky
theorem Jx {K:Nat} {t:TypeId} {a c:Operand} {p:TypeId×TI} {l m:Nat} {k1 k2:IntKind} {n1 n2:Int} (hp':fU E t=some p) (hok:da p.2=true) (ha:aJ s.ts a= .int k1 n1) (hc:aJ s.ts c= .int k2 n2) (h1:n1=(l:Int)) (h2:n2=(m:Int)) (hl:l≤m) (hm:m≤1000000) (hk:s.free K) (hp:B.pk K=false) (hkz:(cI (eg p.2.zero)).isEmpty=true):
  aP E B (.makeSlice t a c) s (s.set K (.rows false p.1 p.2.size (List.replicate l (eg p.2.zero)))) (.ms K p.2.size 0 l) (some (K,true)):=aP.lay hk hp fun {F g φ tm h new} r=>by
 subst h1;subst h2;obtain ⟨i,hi,he,hie⟩:=gV hp';obtain ⟨v,v1,v2⟩:=r.val ha (by simp)
 obtain ⟨w,w1,w2⟩:=r.val hc (by simp)
 cases v2;cases w2;have hsz:=yz hok;have hrep:∀n,tA (eg p.2.zero) n=(List.replicate n (eg p.2.zero)).flatten:=fun n=>by
  induction n with
  |zero=>rfl
  |succ n ih=>show eg p.2.zero++tA _ n=_;rw[ih,List.replicate_succ,List.flatten_cons]
 have hlr:∀n,(rep p.2.zero n).length=n*p.2.size:=fun n=>by rw[(Ag (F:=fun _=>none) (g:=.no) (jw p.2.zero) n).length,De,oB,hsz]
 refine ⟨.sl new 0 l (.k m),.cells p.1 (rep p.2.zero m),?_,PQ,xj (fun e=>by cases e) (fun r hr=>by rw[List.eq_of_mem_replicate hr,oB,hsz]) (by rw[List.length_replicate];exact ⟨hl,hlr m⟩) ?_⟩
 ·show two tm a c (fun u v=>aF (eX u) (eX v) (pR E new t))=_
  unfold two;rw[v1,w1];show pR E new t l m=_;unfold pR;rw[hi];show ai (je i.desc) _=_;rw[he];show ai (E.ty.get p.1) _=_;rw[hie];show sel (Nat.ble l m&&(Nat.ble m 1000000&&da p.2)) (some (SV.sl new 0 l (.k m),[(new,some (SO.cells p.1 (rep p.2.zero m)))])) none=_;rw[(aX _ _).2 hl,(aX _ _).2 hm,hok];rfl
 ·rw[List.length_replicate,←hrep];have afG:∀l m,l≤m→(rep p.2.zero m).take (l*p.2.size)=rep p.2.zero l:=by
   intro l;induction l with
   |zero=>intro m _;simp[rep]
   |succ l ih=>
    intro m hlm;obtain ⟨m',rfl⟩:∃m',m=m'+1:=⟨m-1,by omega⟩
    show (p.2.zero++rep p.2.zero m').take ((l+1)*p.2.size)=p.2.zero++rep p.2.zero l;rw[Nat.add_mul,Nat.one_mul,Nat.add_comm,←hsz,List.take_length_add_append,hsz,ih m' (by omega)]
  rw[afG l m hl];exact Ag (jw _) l
theorem PA {K:Nat} {t:TypeId} (hk:s.free K) (hp:B.pk K=false):aP E B (.makeMap t none) s (s.set K (.map [])) (.mp K) (some (K,true)):=aP.lay hk hp fun {F g φ tm h new} r=>by
 refine ⟨.mp new,.map [] 0,rfl,?_,fun hp' hh=> ?_⟩
 ·have:=VA.mp (F:=F) (g:=g.at K new (.k 0)) K;rwa[lz] at this
 ·have:=du.map (F:=F) (g:=g.at K new (.k 0)) (h:=hp') (K:=K) (es:= []) (ms:= []) (c:=0) (by rw[lz];exact hh) .nil .nil
  rwa[lz] at this
theorem Yz {K:Nat} {t:TypeId} {a:Operand} {i:TI} {b:ByteArray} (hi:E.ty.get t=some i) (hd:nQ i.desc=true) (ha:aJ s.ts a= .str b) (hk:s.free K) (hp:B.pk K=false):aP E B (.range t a) s (s.set K (.iter b 0)) (.it K) (some (K,true)):=aP.lay hk hp fun {F g φ tm h new} r=>by
 obtain ⟨v,v1,v2⟩:=r.val ha (by simp)
 cases v2;refine ⟨.ptr new 0,.gm b 0,?_,?_,fun hp' hh=> ?_⟩
 ·show one tm a (lT E h.hp.get new t)=_;unfold one;rw[v1];show ai (E.ty.get t) (fun i=>ai (vl i.desc (.str b) h.hp.get) fun o=>some (SV.ptr new 0,[(new,some o)]))=_
  rw[hi];show ai (vl i.desc (.str b) h.hp.get) _=_;generalize i.desc=d at hd;cases d<;>first|(cases hd;done)|rfl
 ·have:=VA.it (F:=F) (g:=g.at K new (.k 0)) K;rwa[lz] at this
 ·have:=du.iter (F:=F) (g:=g.at K new (.k 0)) (h:=hp') (K:=K) (s:=b) (pos:=0) (by rw[lz];exact hh)
  rwa[lz] at this
end
section
variable {F F':Hf} {g g':Gb} {B:Bs} {φ:Nat→List Nat} {s s' s1:LS} {tm:Tf} {h:Hs} {hp:Hf} {E:Env} {nt:Nat} {all l:List Oper}
def nH (s:LS) (sz:Nat) (y:AV) (R:List (List AV)):Prop:=y≠ .undef∧∀{B:Bs} {F:Hf} {g:Gb} {φ:Nat→List Nat} {tm:Tf} {h:Hs} {v:SV},Rel B F g φ s tm h→VA F g v y→∃xs,iW h.hp.get sz v=some (R.length,xs)∧VAs F .no xs R.flatten∧∀r∈R,r.length=sz
theorem Ux {sz id off n:Nat} {c:Cp} {e:TypeId} {svs:List SV} (hh:cD (hp id) off (n*sz)=some (e,svs)) (hl:off+n*sz≤svs.length):iW hp sz (.sl id off n c)=some (n,(svs.drop off).take (n*sz)):=by
 show dL hp sz (.sl id off n c)=_;unfold dL;refine m7 (a:=n) rfl (b:=((svs.drop off).take (n*sz))) ?_;show eH hp id off (Nat.mul n sz)=_;unfold eH;rw[show cD (hp id) off (Nat.mul n sz)=some (e,svs) from hh];show sel (Nat.ble (Nat.add off (Nat.mul n sz)) svs.length) (some ((svs.drop off).take (n*sz))) none=_;rw[show Nat.ble (Nat.add off (Nat.mul n sz)) svs.length=true from Nat.ble_eq_true_of_le hl]
theorem Yb {y:AV} {e:TypeId} {sz:Nat} {R:List (List AV)} (hy:kZ y=some (e,sz,R)):nH s sz y R:=⟨fun e=>(by subst e;cases hy),fun {B F g φ tm h v} r hv=>by
 rcases oX hv hy with ⟨rfl,rfl|rfl⟩|⟨id,off,c,e',svs,rfl,_,hF,hu,hl,hq⟩
 ·exact ⟨[],rfl,.nil,fun r hr=>by cases hr⟩
 ·exact ⟨[],rfl,.nil,fun r hr=>by cases hr⟩
 ·exact ⟨_,Ux (g4 r.sub hF) hl,hq,hu⟩⟩
theorem adC {sz:Nat}:nH s sz .aR []:=⟨by simp,fun {B F g φ tm h v} r hv=>by cases hv;exact ⟨[],rfl,.nil,fun r hr=>by cases hr⟩⟩
theorem IX {sz lo n:Nat} {α:Type} {Q:List (List α)} (hu:∀r∈Q,r.length=sz):((Q.drop lo).take n).flatten=(Q.flatten.drop (lo*sz)).take (n*sz):=by
 rw[iM (fun r hr=>hu r (List.mem_of_mem_drop hr)),ju hu]
theorem adD {K sz lo n:Nat} {z:Bool} {e:TypeId} {Q R:List (List AV)} (hb:lk K s.bs=some (.rows z e sz Q)) (hR:(Q.drop lo).take n=R) (hn:lo+n≤Q.length):nH s sz (.ms K sz lo n) R:=⟨by simp,fun {B F g φ tm h v} r hv=>by
 subst hR;have q:=r.bx K _ hb;generalize φ K=fp at q;cases q with
 |df hb'=>
  cases hv with
  |msN=>exact ⟨[],by simp;rfl,by simp;exact .nil,fun r hr=>by simp at hr⟩
  |msE=>exact ⟨[],by simp;rfl,by simp;exact .nil,fun r hr=>by simp at hr⟩
  |ms _ _ _ hb0=>rw[hb'] at hb0;cases hb0
 | @rows _ _ _ _ svs hb' hh hz hu hc q=>
  have hl:=gj hc;have hle:lo*sz+n*sz≤Q.length*sz:=by rw[←Nat.add_mul];exact Nat.mul_le_mul_right _ hn
  have hlen:((Q.drop lo).take n).length=n:=by rw[List.length_take,List.length_drop];omega
  have hus:∀r∈(Q.drop lo).take n,r.length=sz:=fun r hr=>hu r (List.mem_of_mem_drop (List.mem_of_mem_take hr))
  have hq:VAs F .no ((svs.drop (lo*sz)).take (n*sz)) ((Q.drop lo).take n).flatten:=by
   have:=(q.drop (lo*sz)).take (n*sz);rwa[List.drop_take,List.take_take,Nat.min_eq_left (by omega),←IX hu] at this
  cases hv with
  |msN _ hb0=>rw[hb'] at hb0;cases hb0
  |msE=>exact ⟨[],by simp;rfl,by simp;exact .nil,fun r hr=>by simp at hr⟩
  |ms _ _ _ _=>
   exact ⟨_,by rw[hlen];exact Ux (jv hh) (by omega),hq,hus⟩⟩
def iL (K:Nat) (x:AV):AV:=sel (cc K (bW x)) .undef x
def ql (K:Nat):List AV→List AV
 | []=> []
 |x::l=>iL K x::ql K l
theorem tX (K:Nat) (x:AV):K∉bW (iL K x):=by
 unfold iL;rw[aC];split
 ·exact fun hc=>by cases hc
 ·rename_i hx;exact fun hc=>hx ((dV _ _).2 hc)
theorem zk {K:Nat} {x:AV} {v:SV} (q:VA F g v x):VA F g v (iL K x):=by
 unfold iL;rw[aC];split
 ·exact .undef v
 ·exact q
theorem EV {K:Nat}:∀{xs:List AV} {vs:List SV},VAs F g vs xs→VAs F g vs (ql K xs)
 | [],_,q=>by cases q;exact .nil
 |x::l,_,q=>by cases q with|cons h t=>exact .cons (zk h) (EV t)
theorem yw (K:Nat):∀(l:List AV),K∉cI (ql K l)
 | [],hc=>by cases hc
 |x::l,hc=>(List.mem_append.1 (show K∈bW (iL K x)++cI (ql K l) from hc)).elim (tX K x) (yw K l)
def Bx.ea (K:Nat):Bx→Bx
 | .flat e cs=>.flat e (ql K cs)
 | .hole e s Q i x=>.hole e s Q i (iL K x)
 |b=>b
def LS.ea (s:LS) (K:Nat):LS:=⟨s.ts.map fun p=>(p.1,iL K p.2),s.bs.map fun p=>(p.1,p.2.ea K)⟩
theorem EU (s:LS) (K:Nat):(s.ea K).free K:=by
 refine ⟨fun t x hx=> ?_,fun k b hne hb=> ?_⟩
 ·rw[show (s.ea K).ts=s.ts.map fun p=>(p.1,iL K p.2) from rfl,iK] at hx
  obtain ⟨y,_,rfl⟩:=Option.map_eq_some_iff.1 hx;exact tX K y
 ·rw[show (s.ea K).bs=s.bs.map fun p=>(p.1,p.2.ea K) from rfl,iK] at hb
  obtain ⟨y,_,rfl⟩:=Option.map_eq_some_iff.1 hb;cases y with
  |flat e cs=>exact yw K cs
  |hole e s Q i x=>exact tX K x
  |_=>exact fun hc=>by cases hc
theorem Ko (r:Rel B F g φ s tm h) (K:Nat):Rel B F g φ (s.ea K) tm h:=by
 have back:∀{k b'},lk k (s.ea K).bs=some b'→∃b,lk k s.bs=some b∧b'=b.ea K:=fun {k b'} hb=>by
  rw[show (s.ea K).bs=s.bs.map fun p=>(p.1,p.2.ea K) from rfl,iK] at hb
  obtain ⟨b,hb1,rfl⟩:=Option.map_eq_some_iff.1 hb;exact ⟨b,hb1,rfl⟩
 refine {r with tm:=fun t y hy hn=> ?_,bx:=fun k b hb=> ?_,dj:=fun k k' b b' hb hb'=> ?_,nf:=fun k b hb=> ?_,jD:=fun k b hb=> ?_}
 ·rw[show (s.ea K).ts=s.ts.map fun p=>(p.1,iL K p.2) from rfl,iK] at hy
  obtain ⟨x,hx,rfl⟩:=Option.map_eq_some_iff.1 hy;by_cases hu:x= .undef
  ·subst hu;exact absurd rfl hn
  ·obtain ⟨v,v1,v2⟩:=r.tm t x hx hu;exact ⟨v,v1,zk v2⟩
 ·obtain ⟨b0,h0,rfl⟩:=back hb;have q:=r.bx k b0 h0;generalize φ k=fp at q ⊢;cases q with
  |flat hh q=>exact .flat hh (EV q)
  |df hb1=>exact .df hb1
  |rows hb1 hh hz hu hc q=>exact .rows hb1 hh hz hu hc q
  |map hh q1 q2=>exact .map hh q1 q2
  |iter hh=>exact .iter hh
  |hole hb1 hh hu hc q hi hv hx=>exact .hole hb1 hh hu hc q hi hv (zk hx)
 ·obtain ⟨c,hc,_⟩:=back hb;obtain ⟨c',hc',_⟩:=back hb';exact r.dj k k' c c' hc hc'
 ·obtain ⟨b0,h0,_⟩:=back hb;exact r.nf k b0 h0
 ·obtain ⟨b0,h0,_⟩:=back hb;exact r.jD k b0 h0
theorem Xc {K:Nat} {z:Bool} {e:TypeId} {sz:Nat} {Q:List (List AV)} (hb:lk K s.bs=some (.rows z e sz Q)):lk K (s.ea K).bs=some (.rows z e sz Q):=by
 rw[show (s.ea K).bs=s.bs.map fun p=>(p.1,p.2.ea K) from rfl,iK,hb]
 rfl
theorem wi {e:TypeId} {m:Nat} {xs:List SV} {v w:SV} {t:TypeId} {i ie:TI} (hi:E.ty.get t=some i) (hd:je i.desc=some e) (he:E.ty.get e=some ie) (hok:da ie=true) (hw:iW hp ie.size w=some (m,xs)) (hm:m≤1000000) {new:Nat}:
  fC E hp new t v w=sel (Nat.beq m 0) (sel (vD v) (some (v,[])) none) (nF v hp new e ie.size m xs):=by
 unfold fC;rw[cW hi,cW hd];unfold Eb;rw[cW he,hok];show ai (iW hp ie.size w) (fun q=>sel (Nat.ble q.1 1000000) (sel (Nat.beq q.1 0) (sel (vD v) (some (v,[])) none) (nF v hp new e ie.size q.1 q.2)) none)=_
 rw[cW hw];show sel (Nat.ble m 1000000) _ none=_;rw[show Nat.ble m 1000000=true from Nat.ble_eq_true_of_le hm]
theorem ahy {K sz n:Nat} {c:Cp} (h1:g.β K=true) (h2:g.κ K=c):VA F g (.sl (g.ρ K) 0 n c) (.ms K sz 0 n):=by
 have:=VA.ms (F:=F) (g:=g) (K:=K) sz 0 n h1;rw[Nat.zero_mul,h2] at this;cases c<;>exact this
theorem RJ {K new:Nat} (r:Rel B F g φ s tm h) (eL:h.hp.get new=none) (hlo:B.nx≤new) (hk:s.free K) (hpk:B.pk K=false) {e:TypeId} {Q P R:List (List AV)} {z z':Bool} {n:Nat} {v w:SV} {t:TypeId} {i ie:TI} {xs:List SV} (hi:E.ty.get t=some i) (hd:je i.desc=some e) (he:E.ty.get e=some ie) (hok:da ie=true)
  (hv:VA F g v (.ms K ie.size 0 n)) (hw:iW h.hp.get ie.size w=some (R.length,xs)) (hx:VAs F .no xs R.flatten) (hu:∀x∈R,x.length=ie.size) (hP:Q.take n=P) (hn:n≤Q.length) (hn6:n≤1000000) (hR:R.length≤1000000) (hz':z'=true→z=true∧n=Q.length) (hb:lk K s.bs=some (.rows z e ie.size Q)):
  ∃v' us,fC E h.hp.get new t v w=some (v',us)∧(∀h',Upd h us new h'∨(us= []∧h'=h)→Rel B F (qw g (some (K,false)) new us v') (oY φ (some (K,false)) new us) (s.set K (.rows z' e ie.size (P++R))) tm h')∧VA F (qw g (some (K,false)) new us v') v' (.ms K ie.size 0 (P++R).length)∧∀u∈us,u.1=new∨u.1∈φ K:=by
 have hPl:P.length=n:=by rw[←hP,List.length_take];omega
 have hlen:(P++R).length=n+R.length:=by rw[List.length_append,hPl]
 have q:=r.bx K _ hb;have hsl:vD v=true:=by cases hv<;>rfl
 rw[wi hi hd he hok hw hR];by_cases hR0:R.length=0
 ·have hRn:R= []:=List.length_eq_zero_iff.1 hR0;refine ⟨v,[],?_,?_,by rw[hlen,hR0];exact hv,fun u hu=>(by cases hu)⟩
  ·rw[hR0];show sel (vD v) (some (v,[])) none=_;rw[hsl]
  ·have ahT:oz s (s.set K (.rows z' e ie.size (P++R))):=⟨fun t y hy=>.inr ⟨y,hy,WV.refl y⟩,fun k b' hb'=>by
    rw[show (s.set K (.rows z' e ie.size (P++R))).bs=(K,.rows z' e ie.size (P++R))::s.bs from rfl,br] at hb';split at hb'
    ·rename_i ek;cases hb';subst ek;refine ⟨_,hb,fun F g h K fp q=> ?_⟩
     rw[hRn,List.append_nil];generalize hQ:Bx.rows z e ie.size Q=bb at q;cases q with
     |flat|map|iter|hole=>cases hQ
     |df hb0=>cases hQ;rw[←hP];simp only[List.take_nil];exact .df hb0
     |rows hb0 hh hz hu0 hc q=>
      cases hQ;have hl:=gj hc;have hle:n*ie.size≤Q.length*ie.size:=Nat.mul_le_mul_right _ hn;refine .rows hb0 hh (fun e0=> ?_) (fun r hr=>hu0 r ?_) ?_ ?_
      ·obtain ⟨z1,z2⟩:=hz' e0;rw[←hP,z2,List.take_length];exact hz z1
      ·rw[←hP] at hr;exact List.mem_of_mem_take hr
      ·rw[hPl];cases hκ:g.κ K with
       |k m=>rw[hκ] at hc;exact ⟨Nat.le_trans hn hc.1,hc.2⟩
       |u e'=>rw[hκ] at hc;exact ⟨hc.1,Nat.le_trans hle hc.2⟩
      ·rw[hPl,←hP,iM hu0];have:=q.take (n*ie.size);rwa[List.take_take,Nat.min_eq_left hle] at this
    ·exact ⟨b',hb',WB.refl b'⟩⟩
   have r1:=r.less ahT;intro h' hu;show Rel B F g φ _ tm h';rcases hu with ⟨u1,u2,u3,u4⟩|⟨_,rfl⟩
   ·exact {r1 with bx:=fun k b hb=>(r1.bx k b hb).jE (Hle.refl F) fun i _=>u1 i,sub:=fun id o ho=>(u1 id).trans (r1.sub id o ho),bd:=fun x hx=>(u1 x).trans (r1.bd x (Nat.le_trans u2 hx)),nx:=Nat.le_trans r1.nx u2,old:=fun x hx hp=>(u1 x).trans (r1.old x hx hp),lg:=fun x hx=>r1.lg x (u4 x hx)}
   ·exact r1
 rw[show Nat.beq R.length 0=false from by
  cases hx:Nat.beq R.length 0 with
  |false=>rfl
  |true=>exact absurd ((beq_iff _ _).1 hx) hR0]
 show ∃v' us,nF v h.hp.get new e ie.size R.length xs=some (v',us)∧_;have hRne:P++R≠ []:=fun hc=>hR0 (by rw[(List.append_eq_nil_iff.1 hc).2];rfl)
 have hx2:xs.length=R.length*ie.size:=by rw[hx.length,qm hu]
 have hlt:=r.lt hb;generalize hφ:φ K=fp at q hlt;have hfo:∀i∈fp,∃b,lk K s.bs=some b∧i∈φ K:=fun i hi=>⟨_,hb,by rw[hφ];exact hi⟩
 have QD:∀(us:List Up) (old:List SV),us≠ []→VAs F .no old P.flatten→old.length=n*ie.size→(∀x∈P,x.length=ie.size)→(h.ups us).hp.get new=some (.cells e (old++xs))→(∀x,x≠new→x∉fp→(h.ups us).hp.get x=h.hp.get x)→(∀x∈fp,(h.ups us).hp.get x=h.hp.get x∨(h.ups us).hp.get x=none)→(∀x∈(h.ups us).lg,x=new∨x∈fp∨x∈h.lg)→(∀u∈us,u.1=new∨u.1∈fp)→
   dM new us=true→(∀h',Upd h us new h'∨(us= []∧h'=h)→Rel B F (qw g (some (K,false)) new us (.sl new 0 (Nat.add n R.length) (.u e))) (oY φ (some (K,false)) new us) (s.set K (.rows z' e ie.size (P++R))) tm h')∧VA F (qw g (some (K,false)) new us (.sl new 0 (Nat.add n R.length) (.u e))) (.sl new 0 (Nat.add n R.length) (.u e)) (.ms K ie.size 0 (P++R).length)∧∀u∈us,u.1=new∨u.1∈fp:=fun us old hus o1 o2 o3 u1 u2 u2' u4 u5 hN=>by
  rw[zw hN,E5 hN];have hl:(old++xs).length=(P++R).length*ie.size:=by rw[List.length_append,o2,hx2,hlen,Nat.add_mul]
  refine ⟨fun h' hu=> ?_,by rw[hlen];exact PQ,fun u hu=>u5 u hu⟩
  rcases hu with ⟨w1,w2,w3,w4⟩|⟨hc,_⟩
  rotate_left
  ·exact absurd hc hus
  refine r.chg (K:=K) (b':=.rows z' e ie.size (P++R)) (fo:=fp) (fp:= [new]) hfo (fun i hi=>.inr (by rw[List.mem_singleton.1 hi];exact ⟨eL,hlo⟩)) (fun x h1 h2=>by rw[w1];exact u2 x (fun e0=>h2 (by simp[e0])) h1) w2 (fun x hx=> ?_) (fun x hx=> ?_) (xj (fun _=>hRne) (fun x hx=>(List.mem_append.1 hx).elim (o3 x) (hu x)) (show uH e ie.size (P++R).length (old++xs).length (.u e) from ⟨rfl,by rw[hl];exact Nat.le_refl _⟩) ?_ _ (by rw[w1];exact u1)) (.inr ⟨hk,hpk,fun k hne=>RH hne⟩)
  ·rw[w1,u2 x (by omega) (fun hc=>by have:=hlt x hc;omega)]
   exact r.bd x (by omega)
  ·rcases u4 x (w4 x hx) with h1|h1|h1
   ·exact .inr (.inr (by simp[h1]))
   ·exact .inr (.inl h1)
   ·exact .inl h1
  ·rw[←hl,List.take_length,List.flatten_append];exact o1.append hx
 cases q with
 |df hb'=>
  have hv':v= .aR:=by
   cases hv with
   |msN=>rfl
   |msE _ _ h0=>cases h0
   |ms _ _ _ hb0=>rw[hb'] at hb0;cases hb0
  subst hv';have hn0:n=0:=Nat.le_zero.1 hn;have hP0:P= []:=by rw[←hP];simp
  obtain ⟨r1,r2,r3⟩:=QD [(new,some (.cells e xs))] [] (by simp) (by rw[hP0];exact .nil) (by rw[hn0,Nat.zero_mul];rfl) (fun x hx=>by rw[hP0] at hx;cases hx) (by rw[j7,if_pos rfl];rfl) (fun x hx _=>by rw[j7,if_neg hx]) (fun x hx=>by cases hx) (fun x hx=>by
   rw[Hr] at hx;rcases List.mem_cons.1 hx with h1|h1
   ·exact .inl h1
   ·exact .inr (.inr h1)) (fun u hu=>.inl (by rw[List.mem_singleton.1 hu])) (rm List.mem_cons_self)
  rw[hn0,show Nat.add 0 R.length=R.length from Nat.zero_add _] at r1 r2;exact ⟨_,_,rfl,r1,r2,r3⟩
 | @rows _ _ _ _ svs hb' hh hz hu' hc q=>
  have hvs:v= .sl (g.ρ K) 0 n (g.κ K):=by
   cases hv with
   |msN s hb0=>rw[hb'] at hb0;cases hb0
   |msE _ _ h0=>cases h0
   |ms s lo n hb0=>rw[Nat.zero_mul];cases g.κ K<;>rfl
  have hl:=gj hc;have hle:n*ie.size≤Q.length*ie.size:=Nat.mul_le_mul_right _ hn;have o2:(svs.take (n*ie.size)).length=n*ie.size:=by rw[List.length_take];omega
  have o3:∀x∈P,x.length=ie.size:=fun x hx=>hu' x (by rw[←hP] at hx;exact List.mem_of_mem_take hx)
  have o1:VAs F .no (svs.take (n*ie.size)) P.flatten:=by
   have:=q.take (n*ie.size);rw[List.take_take,Nat.min_eq_left hle,←iM hu',hP] at this;exact this
  have hold:eH h.hp.get (g.ρ K) 0 (Nat.mul n ie.size)=some (svs.take (n*ie.size)):=by
   unfold eH;rw[hh];show sel (Nat.ble (Nat.add 0 (Nat.mul n ie.size)) svs.length) (some ((svs.drop 0).take (n*ie.size))) none=_;rw[show Nat.ble (Nat.add 0 (Nat.mul n ie.size)) svs.length=true from Nat.ble_eq_true_of_le (by rw[show Nat.add 0 (Nat.mul n ie.size)=n*ie.size from Nat.zero_add _];omega)]
   rfl
  have hto:nF v h.hp.get new e ie.size R.length xs=xp new e ie.size (g.ρ K) 0 n (g.κ K) R.length xs (e,svs) (svs.take (n*ie.size)):=by
   rw[hvs];show rJ h.hp.get new e ie.size R.length xs (g.ρ K) 0 n (g.κ K)=_;unfold rJ;rw[show Nat.ble n 1000000=true from Nat.ble_eq_true_of_le hn6];show sel (FQ n R.length (g.κ K)) _ _=_;rw[aC];split
   ·rename_i vJ;rw[cW hold];cases hκ:g.κ K with
    |u e'=>rw[hκ] at vJ;cases vJ
    |k m=>
     rw[hκ] at vJ;have vJ:m<n+R.length:=Nat.le_of_ble_eq_true vJ;show _=sel (Nat.ble (Nat.add n R.length) m) _ _;rw[show Nat.ble (Nat.add n R.length) m=false from by
      cases hx:Nat.ble (Nat.add n R.length) m with
      |false=>rfl
      |true=>exact absurd (Nat.le_of_ble_eq_true hx) (by show ¬n+R.length≤m;omega)]
   ·exact m7 (by rw[hh];rfl) hold
  have hρ:g.ρ K<h.nx:=hlt _ (by simp)
  rw[hto];cases hκ:g.κ K with
  |u e'=>
   rw[hκ] at hc;obtain ⟨rfl,hl2⟩:=hc;have e1:xp new e' ie.size (g.ρ K) 0 n (.u e') R.length xs (e',svs) (svs.take (n*ie.size))=some (.sl new 0 (Nat.add n R.length) (.u e'),[(g.ρ K,none),(new,some (.cells e' (svs.take (n*ie.size)++xs)))]):=by
    show sel (Nat.ble (Nat.add 0 (Nat.mul n ie.size)) svs.length&&Nat.beq e' e') _ none=_;rw[show Nat.ble (Nat.add 0 (Nat.mul n ie.size)) svs.length=true from Nat.ble_eq_true_of_le (by rw[show Nat.add 0 (Nat.mul n ie.size)=n*ie.size from Nat.zero_add _];omega),show Nat.beq e' e'=true from (beq_iff _ _).2 rfl]
    rfl
   obtain ⟨r1,r2,r3⟩:=QD [(g.ρ K,none),(new,some (.cells e' (svs.take (n*ie.size)++xs)))] _ (by simp) o1 o2 o3 (by
    show ((h.hp.set (g.ρ K) none).set new _).get new=_;rw[Tr.bR,if_pos rfl]) (fun x hx hx'=>by
    show ((h.hp.set (g.ρ K) none).set new _).get x=_;rw[Tr.bR,if_neg hx,Tr.bR,if_neg (fun e0=>hx' (by simp[e0]))]) (fun x hx=>by
    have ex:x=g.ρ K:=by simpa using hx
    have hne:x≠new:=fun e0=>by rw[←e0,ex,hh] at eL;cases eL
    show ((h.hp.set (g.ρ K) none).set new _).get x=_∨((h.hp.set (g.ρ K) none).set new _).get x=_;rw[Tr.bR,if_neg hne,Tr.bR,if_pos ex];exact .inr rfl) (fun x hx=>by
    have:x∈new::g.ρ K::h.lg:=hx;simpa using this) (fun u hu=>by
    rcases List.mem_cons.1 hu with rfl|hu
    ·exact .inr (by simp)
    ·exact .inl (by rw[List.mem_singleton.1 hu])) (rm (List.mem_cons_of_mem _ List.mem_cons_self))
   exact ⟨_,_,e1,r1,r2,r3⟩
  |k m=>
   rw[hκ] at hc;obtain ⟨hc1,hc2⟩:=hc;have e1:xp new e ie.size (g.ρ K) 0 n (.k m) R.length xs (e,svs) (svs.take (n*ie.size))=sel (Nat.ble (Nat.add n R.length) m) (sel (Nat.ble (Nat.add 0 (Nat.mul (Nat.add n R.length) ie.size)) svs.length) (some (.sl (g.ρ K) 0 (Nat.add n R.length) (.k m),[(g.ρ K,some (.cells e (bI svs (Nat.add 0 (Nat.mul n ie.size)) xs)))])) none) (me new e (Nat.add n R.length) (svs.take (n*ie.size)++xs) []):=rfl;cases nA:Nat.ble (Nat.add n R.length) m with
   |false=>
    obtain ⟨r1,r2,r3⟩:=QD [(new,some (.cells e (svs.take (n*ie.size)++xs)))] _ (by simp) o1 o2 o3 (by rw[j7,if_pos rfl]) (fun x hx _=>by rw[j7,if_neg hx]) (fun x hx=>by
     have ex:x=g.ρ K:=by simpa using hx
     have hne:x≠new:=fun e0=>by rw[←e0,ex,hh] at eL;cases eL
     rw[j7,if_neg hne];exact .inl rfl) (fun x hx=>by
     rw[Hr] at hx;rcases List.mem_cons.1 hx with h1|h1
     ·exact .inl h1
     ·exact .inr (.inr h1)) (fun u hu=>.inl (by rw[List.mem_singleton.1 hu])) (rm List.mem_cons_self)
    exact ⟨_,_,by rw[e1,nA];rfl,r1,r2,r3⟩
   |true=>
    have hm:n+R.length≤m:=Nat.le_of_ble_eq_true nA;have acE:(n+R.length)*ie.size≤svs.length:=by rw[hc2];exact Nat.mul_le_mul_right _ hm
    have hz0:Nat.add 0 (Nat.mul n ie.size)=n*ie.size:=Nat.zero_add _;have hl3:(svs.take (n*ie.size)++xs).length=(P++R).length*ie.size:=by rw[List.length_append,o2,hx2,hlen,Nat.add_mul]
    have hsl:(bI svs (n*ie.size) xs).length=svs.length:=by
     show (svs.take (n*ie.size)++xs++svs.drop (Nat.add (n*ie.size) xs.length)).length=_;rw[List.length_append,hl3,List.length_drop,hx2,hlen];have:Nat.add (n*ie.size) (R.length*ie.size)=(n+R.length)*ie.size:=by rw[Nat.add_mul];rfl
     rw[this];omega
    have htk:(bI svs (n*ie.size) xs).take ((P++R).length*ie.size)=svs.take (n*ie.size)++xs:=by
     show (svs.take (n*ie.size)++xs++svs.drop (Nat.add (n*ie.size) xs.length)).take ((P++R).length*ie.size)=_;rw[←hl3,List.take_left]
    have hneq:g.ρ K≠new:=fun e0=>by rw[e0] at hh;rw[hh] at eL;cases eL
    have hN:dM new [(g.ρ K,some (SO.cells e (bI svs (n*ie.size) xs)))]=false:=ET fun u hu=>by rw[List.mem_singleton.1 hu];exact hneq
    have hφe:(fun k=>if k=K then [g.ρ K] else φ k)=φ:=by
     funext k;by_cases hk:k=K
     ·rw[if_pos hk,hk,hφ]
     ·rw[if_neg hk]
    refine ⟨.sl (g.ρ K) 0 (Nat.add n R.length) (.k m),[(g.ρ K,some (.cells e (bI svs (n*ie.size) xs)))],?_,fun h' hu'=> ?_,?_,fun u hu=>.inr (by rw[List.mem_singleton.1 hu];simp)⟩
    ·rw[e1,nA,show Nat.ble (Nat.add 0 (Nat.mul (Nat.add n R.length) ie.size)) svs.length=true from Nat.ble_eq_true_of_le (by rw[show Nat.add 0 (Nat.mul (Nat.add n R.length) ie.size)=(n+R.length)*ie.size from Nat.zero_add _];exact acE),hz0]
    ·rcases hu' with ⟨w1,w2,w3,w4⟩|⟨hc,_⟩
     rotate_left
     ·cases hc
     rw[ui hN,E4 hN,←hφe];refine r.chg (K:=K) (b':=.rows z' e ie.size (P++R)) (fo:= [g.ρ K]) (fp:= [g.ρ K]) hfo (fun i hi=>.inl hi) (fun x h1 _=>by rw[w1,j7,if_neg (fun e0=>h1 (by simp[e0]))]) w2 (fun x hx=> ?_) (fun x hx=> ?_) ?_ (.inl rfl)
     ·rw[w1,j7,if_neg (by omega)]
      exact r.bd x (by omega)
     ·have:=w4 x hx;rw[Hr] at this;rcases List.mem_cons.1 this with h1|h1
      ·exact .inr (.inl (by simp[h1]))
      ·exact .inl h1
     ·refine .rows hb' (by rw[w1,j7,if_pos rfl]) (fun _=>hRne) (fun x hx=>(List.mem_append.1 hx).elim (o3 x) (hu x)) (by rw[hκ,hlen];exact ⟨hm,by rw[hsl];exact hc2⟩) ?_
      rw[htk,List.flatten_append];exact o1.append hx
    ·rw[ui hN,hlen];exact ahy hb' hκ
theorem As {c:Call} {a b:Operand} {t1 t2:TypeId} {K n:Nat} {p:TypeId×TI} {Q P R:List (List AV)} {z z':Bool} {i2:TI} {y:AV} (iU:c.callee= .builtin .append) (fw:c.args.toList= [a,b]) (mU:c.argTypes.toList= [t1,t2]) (hp':fU E t1=some p) (hok:da p.2=true) (hi2:E.ty.get t2=some i2) (eA:j0 i2.desc=true)
  (ha:∀{F:Hf} {g:Gb} {φ:Nat→List Nat} {tm:Tf} {h:Hs},Rel B F g φ s tm h→∃v,aI tm a=some v∧VA F g v (.ms K p.2.size 0 n)) (hb:aJ s.ts b=y) (lK:nH s p.2.size y R) (hP:Q.take n=P) (hn:n≤Q.length) (hn6:n≤1000000) (hR:R.length≤1000000) (hz':z'=true→z=true∧n=Q.length) (hbx:lk K s.bs=some (.rows z p.1 p.2.size Q)) (hpk:B.pk K=false):
  aP E B (.call c) s ((s.ea K).set K (.rows z' p.1 p.2.size (P++R))) (.ms K p.2.size 0 (P++R).length) (some (K,false)):=aP.mk fun {F g φ tm h new} r h1 h2=>by
 obtain ⟨i,hi,he,hie⟩:=gV hp';obtain ⟨v,v1,v2⟩:=ha r;obtain ⟨w,w1,w2⟩:=r.val hb lK.1;obtain ⟨xs,x1,x2,x3⟩:=lK.2 r w2;obtain ⟨v',us,u1,r2,u2,u3⟩:=RJ (Ko r K) h1 h2 (EU s K) hpk hi he hie hok v2 x1 x2 x3 hP hn hn6 hR hz' (Xc hbx);refine ⟨v',us,?_,u2,r2,fun u hu=>(u3 u hu).elim .inl fun hc=>.inr ⟨K,_,rfl,hbx,hc⟩,fun k b' hb'=> ?_,fun k hk=>wM (hk.elim (fun ⟨b,hb⟩=>.inl ⟨b.ea K,by rw[show (s.ea K).bs=s.bs.map fun p=>(p.1,p.2.ea K) from rfl,iK,hb];rfl⟩) fun ⟨l,hl⟩=>.inr (by cases hl;rfl))⟩
 ·show fJ E tm h.hp.get new c=_;unfold fJ;rw[iU];show ai (bF tm c.args.toList) (fun aa=>gd E h.hp.get new .append aa c.argTypes.toList)=_
  rw[fw,mU];have e1:bF tm [a,b]=some [v,w]:=by
   show aF (aI tm a) (aF (aI tm b) (some []) fun v l=>some (v::l)) (fun v l=>some (v::l))=_
   rw[v1,w1];rfl
  rw[e1];show ai (E.ty.get t2) (fun i=>sel (j0 i.desc) (fC E h.hp.get new t1 v w) none)=_
  rw[cW hi2,eA];exact u1
 ·rw[show ((s.ea K).set K (.rows z' p.1 p.2.size (P++R))).bs=(K,.rows z' p.1 p.2.size (P++R))::(s.ea K).bs from rfl,br] at hb';by_cases e:k=K
  ·subst e;exact .inl ⟨_,hbx⟩
  ·rw[if_neg e,show (s.ea K).bs=s.bs.map fun p=>(p.1,p.2.ea K) from rfl,iK] at hb'
   obtain ⟨b0,h0,_⟩:=Option.map_eq_some_iff.1 hb';exact .inl ⟨b0,h0⟩
theorem Ws {c:Call} {a b:Operand} {t1 t2:TypeId} {K n:Nat} {p:TypeId×TI} {Q P R:List (List AV)} {z z':Bool} {i2:TI} {y:AV} (iU:c.callee= .builtin .append) (fw:c.args.toList= [a,b]) (mU:c.argTypes.toList= [t1,t2]) (hp':fU E t1=some p) (hok:da p.2=true) (hi2:E.ty.get t2=some i2) (eA:j0 i2.desc=true)
  (ha:aJ s.ts a= .ms K p.2.size 0 n) (hb:aJ s.ts b=y) (lK:nH s p.2.size y R) (hP:Q.take n=P) (hn:n≤Q.length) (hn6:n≤1000000) (hR:R.length≤1000000) (hz':z'=true→z=true∧n=Q.length) (hbx:lk K s.bs=some (.rows z p.1 p.2.size Q)) (hpk:B.pk K=false):
  aP E B (.call c) s ((s.ea K).set K (.rows z' p.1 p.2.size (P++R))) (.ms K p.2.size 0 (P++R).length) (some (K,false)):=As iU fw mU hp' hok hi2 eA (fun r=>r.val ha (by simp)) hb lK hP hn hn6 hR hz' hbx hpk
theorem PF {c:Call} {a b:Operand} {t1 t2:TypeId} {K:Nat} {p:TypeId×TI} {R:List (List AV)} {z':Bool} {i2:TI} {y:AV} (iU:c.callee= .builtin .append) (fw:c.args.toList= [a,b]) (mU:c.argTypes.toList= [t1,t2]) (hp':fU E t1=some p) (hok:da p.2=true) (hi2:E.ty.get t2=some i2) (eA:j0 i2.desc=true)
  (ha:aJ s.ts a= .aR) (hb:aJ s.ts b=y) (lK:nH s p.2.size y R) (hR:R.length≤1000000) (hbx:lk K s.bs=some (.rows true p.1 p.2.size [])) (hpk:B.pk K=false):
  aP E B (.call c) s ((s.ea K).set K (.rows z' p.1 p.2.size ([]++R))) (.ms K p.2.size 0 ([]++R).length) (some (K,false)):=As (Q:= []) (n:=0) iU fw mU hp' hok hi2 eA (fun {F g φ tm h} r=>by
   obtain ⟨v,v1,v2⟩:=r.val ha (by simp)
   have q:=r.bx K _ hbx;generalize φ K=fp at q;cases v2;cases q with
   |df hb0=>exact ⟨_,v1,.msN _ hb0⟩
   |rows _ _ hz=>exact absurd rfl (hz rfl)) hb lK rfl (Nat.le_refl _) (Nat.zero_le _) hR (fun _=>⟨rfl,rfl⟩) hbx hpk
end
end Go.Sim
end
