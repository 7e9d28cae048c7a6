/- Texts that belong together. The first: More operations that leave the heap as it is; those that need a proof at their place (an element, a quotient, a cut). -/
import Derived.Test.YtmealahmjddpcaaGreatDoorP4
set_option linter.all false
noncomputable section
namespace Go.Sim
section
variable {F F':Hf} {g g':Gb} {B:Bs} {φ:Nat->List Nat} {s s' s1:LS} {tm:Tf} {h:Hs} {hp:Hf} {E:Env} {nt:Nat} {all l:List Oper}
def unL (op:UnOp):AV->Option AV
 | .bool b=>sel (BB op) (some (.bool (!b))) none
 | .int k n=>sel (isNeg op) (some (.int k (k.wrap (0-n)))) none
 |_=>none
theorem aim {op:UnOp} {t:TypeId} {a:Operand} {x y:AV} (ha:aL s.ts a=y) (hx:unL op y=some x):aP E B (.unOp op t a) s s x none:=aP.un (f:=fun _ v=>same (unA op v)) (fun _ _ _=>rfl) ha (fun e=>by subst e;cases hx) fun {F g φ tm h v} r hv=>by
 cases y<;>first|(cases hx;done)|skip
 ·obtain ⟨h1,h2⟩:=ar hx;cases h2;cases hv;refine ⟨_,?_,.bool _⟩;show same (sel (BB op) (some (SV.bool _)) none)=_;rw[h1];rfl
 ·obtain ⟨h1,h2⟩:=ar hx;cases h2;cases hv;refine ⟨_,?_,.int _ _⟩;show same (sel (isNeg op) (some (SV.int _ _)) none)=_;rw[h1];rfl
def Gv:UD->AV->Option AV
 | .int k,.int _ n=>some (.int k (k.wrap n))
 | .string,.str s=>some (.str s)
 |_,_=>none
theorem aeC {src dst:TypeId} {a:Operand} {x y:AV} {i i2:TI} (hi:E.ty.get src=some i) (hi2:E.ty.get dst=some i2) (ha:aL s.ts a=y) (hx:Gv i2.desc y=some x):aP E B (.convert src dst a) s s x none:=aP.un (f:=fun _ v=>same (B1 E src dst v)) (fun _ _ _=>rfl) ha (fun e=>by subst e;unfold Gv at hx;split at hx<;>simp_all) fun {F g φ tm h v} r hv=>by
 have key:∃u,Gx i2.desc v=some u/\VA F g u x:=by
  generalize i2.desc=d at hx;unfold Gv at hx;split at hx
  ·cases hx;cases hv;exact ⟨_,rfl,.int _ _⟩
  ·cases hx;cases hv;exact ⟨_,rfl,.str _⟩
  ·cases hx
 obtain ⟨u,u1,u2⟩:=key;refine ⟨u,?_,u2⟩;show same (aG (E.ty.get src) (E.ty.get dst) fun _ i=>Gx i.desc v)=_
 rw[hi,hi2];show same (Gx i2.desc v)=_;rw[u1];rfl
theorem afX {t:TypeId} {a:Operand} {i:TI} {x:AV} (hi:E.ty.get t=some i) (hd:nC i.desc=false) (ha:aL s.ts a=x) (hx:x≠ .undef):aP E B (.makeInterface t a) s s (.ifc t x) none:=aP.un (f:=fun _=>Bg E t) (fun _ _ _=>rfl) ha hx fun {F g φ tm h v} r hv=>by
 refine ⟨.ifc t v,?_,.ifc t hv⟩;show aj (E.ty.get t) (fun i=>sel (nC i.desc) none (some (SV.ifc t v,[])))=_
 rw[hi];show sel (nC i.desc) none _=_;rw[hd]
theorem aeA {f:FuncId} {a c:Array Operand} {xs ys:List AV} (ha:fO s.ts a.toList=xs) (hx:eQ xs=true) (hc:fO s.ts c.toList=ys) (hy:eQ ys=true):aP E B (.makeFunc (.func f) a c) s s (.fn f xs ys) none:=aP.pure fun {F g φ tm h new} r=>by
 subst ha;subst hc;obtain ⟨vs,v1,v2⟩:=r.bT hx;obtain ⟨ws,w1,w2⟩:=r.bT hy;refine ⟨.fn (.func f) vs ws,?_,.fn f v2 w2⟩;show sel (DH (.func f)) (aG (bT tm a.toList) (bT tm c.toList) fun l m=>some (SV.fn (.func f) l m,[])) none=_
 rw[v1,w1];rfl
theorem aP.len1 {c:Call} {a:Operand} {t:TypeId} {i:TI} {x y:AV} (hc:c.callee= .builtin .len) (ha':c.args.toList= [a]) (ht':c.argTypes.toList= [t]) (hi:E.ty.get t=some i) (ha:aL s.ts a=y) (hy:y≠ .undef)
  (hf:∀{F:Hf} {g:Gb} {φ:Nat->List Nat} {tm:Tf} {h:Hs} {v:SV},Rel B F g φ s tm h->VA F g v y->∃u,mX i.desc v h.hp.get=some u/\VA F g u x):aP E B (.call c) s s x none:=aP.pure fun {F g φ tm h new} r=>by
 obtain ⟨v,v1,v2⟩:=r.val ha hy;obtain ⟨u,u1,u2⟩:=hf r v2;refine ⟨u,?_,u2⟩;show fG E tm h.hp.get new c=_;unfold fG;rw[hc];show aj (bT tm c.args.toList) (fun aa=>fX E h.hp.get new .len aa c.argTypes.toList)=_
 rw[ha',ht'];have e1:bT tm [a]=some [v]:=by
  show aG (aM tm a) (some []) (fun v l=>some (v::l))=_
  rw[v1];rfl
 rw[e1];show aj (E.ty.get t) (fun i=>same (mX i.desc v h.hp.get))=_
 rw[hi];show same (mX i.desc v h.hp.get)=_;rw[u1];rfl
def QV (bs:List (Nat×Bx)):UD->AV->Option Int
 | .slice _,.slice _ _ rows=>some (rows.length:Int)
 | .slice _,.sln _ _ rows=>some (rows.length:Int)
 | .slice _,.slf _ _ rows=>some (rows.length:Int)
 | .slice _,.slx _ _ rows=>some (rows.length:Int)
 | .slice _,.aU=>some 0
 | .slice _,.ms _ _ _ n=>some (n:Int)
 | .string,.str b=>some (b.size:Int)
 | .map _ _,.mp K=>(match lk K bs with|some (.map es)=>some (es.length:Int)|_=>none)
 | .map _ _,.cV=>some 0
 |_,_=>none
theorem afW {c:Call} {a:Operand} {t:TypeId} {i:TI} {n:Int} {y:AV} (hc:c.callee= .builtin .len) (ha':c.args.toList= [a]) (ht':c.argTypes.toList= [t]) (hi:E.ty.get t=some i) (ha:aL s.ts a=y) (hn:QV s.bs i.desc y=some n):aP E B (.call c) s s (.int .i64 n) none:=by
 refine aP.len1 hc ha' ht' hi ha (fun e=>by subst e;unfold QV at hn;split at hn<;>simp_all) fun {F g φ tm h v} r hv=> ?_
 generalize i.desc=d at hn;have key:∀{n':Nat},oq v=some n'->n=(n':Int)->∃u,aj (oq v) (fun n=>some (kJ n))=some u/\VA F g u (.int .i64 n):=fun {n'} h1 h2=>by
  rw[h1,h2];exact ⟨_,rfl,.int _ _⟩
 unfold QV at hn;split at hn
 ·cases hn;rename_i rows;have:oq v=some rows.length:=by cases hv with|iv=>rfl|slice hF hc hn=>rw[hn];rfl
  exact key this rfl
 ·cases hn;rename_i rows;have:oq v=some rows.length:=by cases hv with|mR=>rfl|sln hF hc hn=>rw[hn];rfl
  exact key this rfl
 ·cases hn;rename_i rows;have:oq v=some rows.length:=by cases hv with|tM=>rfl|slf hF hn=>rw[hn];rfl
  exact key this rfl
 ·cases hn;rename_i rows;have:oq v=some rows.length:=by cases hv with|mf=>rfl|rV=>rfl|slx hF hc hn=>rw[hn];rfl
  exact key this rfl
 ·cases hn;cases hv;exact key rfl rfl
 ·cases hn;rename_i n0;have:oq v=some n0:=by cases hv<;>rfl
  exact key this rfl
 ·cases hn;cases hv;exact ⟨_,rfl,.int _ _⟩
 ·split at hn
  ·rename_i K _ es hb;cases hn;cases hv;have q:=r.bx K _ hb;generalize φ K=fp at q;cases q with
   | @map _ ms cl hh hk hv=>
   refine ⟨kJ ms.length,?_,?_⟩
   ·show aj (jc (h.hp.get (g.ρ K))) (fun p=>some (kJ p.1.length))=_
    rw[hh];rfl
   ·have:ms.length=es.length:=by simpa using hk.length
    rw[this];exact .int _ _
  ·cases hn
 ·cases hn;cases hv;exact ⟨_,rfl,.int _ _⟩
 ·cases hn
def YP (mx:Bool):AV->AV->Option AV
 | .int k m,.int k' n=>sel (ct k k') (some (.int k (sel mx (if m<n then n else m) (if n<m then n else m)))) none
 |_,_=>none
theorem Wq {c:Call} {a b:Operand} {mx:Bool} {x y z:AV} (hc:c.callee= .builtin (sel mx .max .min)) (ha':c.args.toList= [a,b]) (ha:aL s.ts a=x) (hb:aL s.ts b=y) (hz:YP mx x y=some z):aP E B (.call c) s s z none:=aP.pure fun {F g φ tm h new} r=>by
 cases x<;>first|(cases hz;done)|skip
 cases y<;>first|(cases hz;done)|skip
 obtain ⟨hk,hz⟩:=ar hz;cases hz;obtain ⟨v,v1,v2⟩:=r.val ha (by simp)
 obtain ⟨w,w1,w2⟩:=r.val hb (by simp)
 rename_i k m k' n;have e1:bT tm [a,b]=some [v,w]:=by
  show aG (aM tm a) (aG (aM tm b) (some []) (fun v l=>some (v::l))) (fun v l=>some (v::l))=_
  rw[v1,w1];rfl
 cases v2;cases w2;refine ⟨_,?_,.int _ _⟩;show fG E tm h.hp.get new c=_;unfold fG;rw[hc];show aj (bT tm c.args.toList) (fun aa=>fX E h.hp.get new (sel mx .max .min) aa c.argTypes.toList)=_
 rw[ha',e1];show fX E h.hp.get new (sel mx .max .min) [.int k (.lit m),.int k' (.lit n)] c.argTypes.toList=_;cases mx
 ·show same (aj (some (ml n m)) fun r=>some (SV.int k (sel r (.lit n) (.lit m))))=_
  show some (SV.int k (sel (ml n m) (.lit n) (.lit m)),[])=some (SV.int k (.lit (if n<m then n else m)),[])
  rw[lM,aC];by_cases hc:n<m
  ·simp[hc]
  ·simp[hc]
 ·show same (aj (some (ml m n)) fun r=>some (SV.int k (sel r (.lit n) (.lit m))))=_
  show some (SV.int k (sel (ml m n) (.lit n) (.lit m)),[])=some (SV.int k (.lit (if m<n then n else m)),[])
  rw[lM,aC];by_cases hc:m<n
  ·simp[hc]
  ·simp[hc]
theorem jm {α:Type} {s:Nat}:∀{rows:List (List α)},(∀r∈rows,r.length=s)->∀l,(rows.drop l).flatten=rows.flatten.drop (l*s)
 |_,_,0=>by simp
 | [],_,l+1=>by simp
 |r::rows,hu,l+1=>by
  have:=jm (rows:=rows) (fun q hq=>hu q (by simp[hq])) l
  rw[List.drop_succ_cons,this,List.flatten_cons,Nat.add_mul,Nat.one_mul,Nat.add_comm,<-List.drop_drop];rw[List.drop_left' (hu r (by simp))]
theorem iG {α:Type} {s:Nat}:∀{rows:List (List α)},(∀r∈rows,r.length=s)->∀l,(rows.take l).flatten=rows.flatten.take (l*s)
 |_,_,0=>by simp
 | [],_,l+1=>by simp
 |r::rows,hu,l+1=>by
  have:=iG (rows:=rows) (fun q hq=>hu q (by simp[hq])) l
  have hr:=hu r (by simp)
  rw[List.take_succ_cons,List.flatten_cons,this,List.flatten_cons,Nat.add_mul,Nat.one_mul,Nat.add_comm];rw[<-hr,List.take_length_add_append]
theorem uy {α:Type} {s:Nat}:∀{rows:List (List α)},(∀r∈rows,r.length=s)->rows.flatten.length=rows.length*s
 | [],_=>by simp
 |r::rows,hu=>by
  rw[List.flatten_cons,List.length_append,uy (fun q hq=>hu q (by simp[hq])),hu r (by simp),List.length_cons,Nat.add_mul,Nat.one_mul,Nat.add_comm]
def ke {α:Type} (rows:List α) (n:Int):Option α:=if 0<=n then rows[n.toNat]? else none
theorem zn {α:Type} {rows:List α} {n:Int} {R:α} (hg:ke rows n=some R):∃k:Nat,n=k/\rows[k]? =some R:=by
 unfold ke at hg;split at hg
 ·exact ⟨n.toNat,by omega,hg⟩
 ·cases hg
def kX:AV->Option (TypeId×Nat×List (List AV))
 | .slice e s rows=>some (e,s,rows)
 | .sln e s rows=>some (e,s,rows)
 | .slf e s rows=>some (e,s,rows)
 | .slx e s rows=>some (e,s,rows)
 |_=>none
theorem o8 {v:SV} {x:AV} {e:TypeId} {sz:Nat} {rows:List (List AV)} (q:VA F g v x) (hx:kX x=some (e,sz,rows)):(rows= []/\(v= .aU\/v= .sle))\/∃id off c e' svs,v= .sl id off rows.length c/\oD e rows.length c/\cL (F id) off (rows.length*sz)=some (e',svs)/\(∀r∈rows,r.length=sz)/\off+rows.length*sz<=svs.length/\VAs F .no ((svs.drop off).take (rows.length*sz)) rows.flatten:=by
 unfold kX at hx;split at hx
 ·cases hx;cases q with
  |iv=>exact .inl ⟨rfl,.inl rfl⟩
  |slice hF hc hn hu hl h=>subst hn;exact .inr ⟨_,_,_,_,_,rfl,hc,hF,hu,hl,h⟩
 ·cases hx;cases q with
  |mR=>exact .inl ⟨rfl,.inl rfl⟩
  |sln hF hc hn hz hu hl h=>subst hn;exact .inr ⟨_,_,_,_,_,rfl,hc,hF,hu,hl,h⟩
 ·cases hx;cases q with
  |tM=>exact .inl ⟨rfl,.inl rfl⟩
  |slf hF hn hu hl h=>subst hn;exact .inr ⟨_,_,_,_,_,rfl,Nat.le_refl _,hF,hu,hl,h⟩
 ·cases hx;cases q with
  |mf=>exact .inl ⟨rfl,.inl rfl⟩
  |rV=>exact .inl ⟨rfl,.inr rfl⟩
  |slx hF hc hn hu hl h=>subst hn;exact .inr ⟨_,_,_,_,_,rfl,hc,hF,hu,hl,h⟩
 ·cases hx
theorem aeo {id off s:Nat} {e:TypeId} {svs:List SV} {rows:List (List AV)} {k:Nat} {R:List AV} (hF:cL (F id) off (rows.length*s)=some (e,svs)) (hu:∀r∈rows,r.length=s) (hl:off+rows.length*s<=svs.length) (hv:VAs F .no ((svs.drop off).take (rows.length*s)) rows.flatten) (hk:rows[k]? =some R):k<rows.length/\VA F g (.ptr id (off+k*s)) (.imm R):=by
 have hlt:k<rows.length:=(List.getElem?_eq_some_iff.1 hk).1;have hR:R.length=s:=hu R (List.mem_of_getElem? hk);have hks:k*s+s<=rows.length*s:=by
  have:(k+1)*s<=rows.length*s:=Nat.mul_le_mul_right _ (by omega)
  rw[Nat.add_mul,Nat.one_mul] at this;exact this
 refine ⟨by omega,.imm (kC hF (by omega) (by rw[hR];omega)) (by rw[hR];omega) ?_⟩
 have e:R=(rows.flatten.drop (k*s)).take s:=by
  rw[<-jm hu,List.drop_eq_getElem_cons hlt,List.flatten_cons];have he:rows[k]=R:=(List.getElem?_eq_some_iff.1 hk).2;rw[he,List.take_left' hR]
 have:=(hv.drop (k*s)).take s;rw[<-e,List.drop_take,List.take_take,List.drop_drop,Nat.min_eq_left (by omega)] at this
 rw[hR];exact this
def elemOf (E:Env) (t:TypeId):Option TI:=aj (E.ty.get t) fun i=>aj (ja i.desc) fun e=>E.ty.get e
theorem KX {t:TypeId} {ie:TI} {id off m k:Nat} {c:Cp} (he:elemOf E t=some ie) (hk:k<m):same (gK E t (.sl id off m c) k)=some (.ptr id (off+k*ie.size),[]):=by
 obtain ⟨i,hi,he⟩:=af he;obtain ⟨e,hd,he⟩:=af he;have hd:=jH hd;unfold gK;rw[hi];show same (BD i.desc E (.sl id off m c) k)=_;rw[hd];show same (pO E e id off m k)=_;unfold pO;rw[he,aC,if_pos ((bk _ _).2 hk)];rfl
theorem YG {t:TypeId} {a ix:Operand} {ie:TI} {sz:Nat} {rows:List (List AV)} {kd:IntKind} {n:Int} {R:List AV} {y:AV} {e:TypeId} (he:elemOf E t=some ie) (hsz:ie.size=sz) (ha:aL s.ts a=y) (hy:kX y=some (e,sz,rows)) (hix:aL s.ts ix= .int kd n) (hR:ke rows n=some R):aP E B (.indexAddr t a ix) s s (.imm R) none:=aP.bi (f:=fun _ v u=>aj (eW u) fun k=>same (gK E t v k)) (fun _ _ _=>rfl) ha (fun e=>by subst e;cases hy) hix (by simp) fun {F g φ tm h v w} r hv hw=>by
 obtain ⟨k,hk,hRk⟩:=zn hR;subst hk;cases hw;rcases o8 hv hy with ⟨rfl,_⟩|⟨id,off,c,e',svs,rfl,_,hF,hu,hl,h⟩
 ·cases hRk
 ·obtain ⟨h1,h2⟩:=aeo (g:=g) hF hu hl h hRk;refine ⟨_,?_,h2⟩;show same (gK E t (.sl id off rows.length c) k)=_;rw[KX he h1,hsz]
theorem N2 {t:TypeId} {a ix:Operand} {ie:TI} {K sz lo n k:Nat} {kd:IntKind} {m:Int} (he:elemOf E t=some ie) (hsz:ie.size=sz) (ha:aL s.ts a= .ms K sz lo n) (hix:aL s.ts ix= .int kd m) (hm:m=(k:Int)) (hk:k<n):aP E B (.indexAddr t a ix) s s (.el K sz (lo+k) 0) none:=aP.bi (f:=fun _ v u=>aj (eW u) fun k=>same (gK E t v k)) (fun _ _ _=>rfl) ha (by simp) hix (by simp) fun {F g φ tm h v w} r hv hw=>by
 subst hm;cases hw;have hv':v=SV.sl (g.ρ K) (lo*sz) n (j3 (g.κ K) lo)/\g.β K=true:=by
  cases hv with
  |msN=>omega
  |msE=>omega
  |ms _ _ _ hb0=>exact ⟨rfl,hb0⟩
 obtain ⟨rfl,hb0⟩:=hv';refine ⟨_,KX he hk,?_⟩;rw[hsz,<-Nat.add_mul];exact .el sz (lo+k) 0 hb0
theorem OD {sz j f n:Nat} {α:Type} {Q:List (List α)} {R:List α} (hu:∀r∈Q,r.length=sz) (hj:Q[j]? =some R) (hf:f+n<=sz):(Q.flatten.drop (j*sz+f)).take n=(R.drop f).take n:=by
 have hlt:j<Q.length:=(List.getElem?_eq_some_iff.1 hj).1;have hR:R.length=sz:=hu R (List.mem_of_getElem? hj);have he:Q[j]=R:=(List.getElem?_eq_some_iff.1 hj).2;rw[<-List.drop_drop,<-jm hu,List.drop_eq_getElem_cons hlt,List.flatten_cons,he,List.drop_append,List.take_append_of_le_length];rw[List.length_drop];omega
theorem QI {t:TypeId} {a:Operand} {i:TI} {K sz j f:Nat} {z:Bool} {e:TypeId} {Q:List (List AV)} {R:List AV} {x:AV} (hi:E.ty.get t=some i) (ha:aL s.ts a= .el K sz j f) (hb:lk K s.bs=some (.rows z e sz Q)) (hj:Q[j]? =some R) (hf:Nat.ble (Nat.add f i.size) sz=true) (hx:gi i ((R.drop f).take i.size) 0=some x) (hk:(bV x).isEmpty=true):aP E B (.load t a) s s x none:=aP.un (f:=fun hp v=>same (g8 E hp t v)) (fun _ _ _=>rfl) ha (by simp) fun {F g φ tm h v} r hv=>by
 cases hv;have hf:f+i.size<=sz:=Nat.le_of_ble_eq_true hf;have q:=r.bx K _ hb;generalize φ K=fp at q;cases q with
 |cH=>cases hj
 | @rows _ _ _ _ svs hb' hh hz hu hc q=>
 have hl:=eA hc;have hlt:j<Q.length:=(List.getElem?_eq_some_iff.1 hj).1;have hjs:j*sz+sz<=Q.length*sz:=by
  have:(j+1)*sz<=Q.length*sz:=Nat.mul_le_mul_right _ (by omega)
  rw[Nat.add_mul,Nat.one_mul] at this;exact this
 have q1:=(q.drop (j*sz+f)).take i.size;rw[OD hu hj hf,List.drop_take,List.take_take,Nat.min_eq_left (by omega)] at q1
 obtain ⟨u,u1,u2⟩:=jL q1 hx;exact ⟨u,pM hi (fy hh) (zK u1 (by omega)),u2.fH hk⟩
theorem NZ {t:TypeId} {a:Operand} {i:TI} {K sz j f:Nat} {e:TypeId} {Q:List (List AV)} {R:List AV} {x x0:AV} {i0:Nat} (hi:E.ty.get t=some i) (ha:aL s.ts a= .el K sz j f) (hb:lk K s.bs=some (.hole e sz Q i0 x0)) (hj:Q[j]? =some R) (hf:Nat.ble (Nat.add f i.size) sz=true) (hx:gi i ((R.drop f).take i.size) 0=some x) (hk:(bV x).isEmpty=true):aP E B (.load t a) s s x none:=aP.un (f:=fun hp v=>same (g8 E hp t v)) (fun _ _ _=>rfl) ha (by simp) fun {F g φ tm h v} r hv=>by
 cases hv;have hf:f+i.size<=sz:=Nat.le_of_ble_eq_true hf;have q:=r.bx K _ hb;generalize φ K=fp at q;cases q with
 | @hole _ _ _ _ _ svs v0 hb' hh hu hc q hi0 hv0 hx0=>
 have hl:=eA hc;have hlt:j<Q.length:=(List.getElem?_eq_some_iff.1 hj).1;have hjs:j*sz+sz<=Q.length*sz:=by
  have:(j+1)*sz<=Q.length*sz:=Nat.mul_le_mul_right _ (by omega)
  rw[Nat.add_mul,Nat.one_mul] at this;exact this
 have q1:=(q.drop (j*sz+f)).take i.size;rw[OD hu hj hf,List.drop_take,List.take_take,Nat.min_eq_left (by omega)] at q1
 obtain ⟨u,u1,u2⟩:=jL q1 hx;exact ⟨u,pM hi (fy hh) (zK u1 (by omega)),u2.fH hk⟩
theorem N0 {t:TypeId} {a:Operand} {i:TI} {K sz j f:Nat} {e:TypeId} {Q:List (List AV)} {x:AV} (hi:E.ty.get t=some i) (hg:eG i.desc=false) (ha:aL s.ts a= .el K sz j f) (hb:lk K s.bs=some (.hole e sz Q (j*sz+f) x)):aP E B (.load t a) s s x none:=aP.un (f:=fun hp v=>same (g8 E hp t v)) (fun _ _ _=>rfl) ha (by simp) fun {F g φ tm h v} r hv=>by
 cases hv;have q:=r.bx K _ hb;generalize φ K=fp at q;cases q with
 | @hole _ _ _ _ _ svs v0 hb' hh hu hc q hi0 hv0 hx0=>
 refine ⟨v0,pM hi (fy hh) ?_,hx0⟩;unfold cO;rw[hg];exact hv0
theorem QJ {t:TypeId} {a:Operand} {i:TI} {K j f:Nat} {e e':TypeId} {sz:Nat} {Q:List (Option (List (List AV)))} {x:AV} (hi:E.ty.get t=some i) (hg:eG i.desc=false) (ha:aL s.ts a= .el K 1 j f) (hb:lk K s.bs=some (.own e e' sz Q (some (j*1+f,x)))):aP E B (.load t a) s s x none:=aP.un (f:=fun hp v=>same (g8 E hp t v)) (fun _ _ _=>rfl) ha (by simp) fun {F g φ tm h v} r hv=>by
 cases hv;have q:=r.bx K _ hb;generalize φ K=fp at q;cases q with
 |own hb' hh hc q nd ho=>
 obtain ⟨_,v0,hv0,hx0⟩:=ho _ _ rfl;refine ⟨v0,pM hi (fy hh) ?_,hx0⟩;unfold cO;rw[hg];exact hv0
end
section
variable {F F':Hf} {g g':Gb} {B:Bs} {φ:Nat->List Nat} {s s' s1:LS} {tm:Tf} {h:Hs} {hp:Hf} {E:Env} {nt:Nat} {all l:List Oper}
def iK:AV->Option (List AV)
 | .agg cs=>some cs
 | .tup _=>none
 | .undef=>none
 |x=>some [x]
theorem VAs.one {v:SV} {x:AV} (h:VA F g v x):VAs F g [v] [x]:=.cons h .nil
theorem lP {v:SV} {y:AV} {xs:List AV} (q:VA F g v y) (hc:iK y=some xs):∃cs,v.cells=some cs/\VAs F g cs xs:=by
 cases q with
 |agg q=>cases hc;exact ⟨_,rfl,q⟩
 |tup=>cases hc
 |undef=>cases hc
 |_=>cases hc;exact ⟨_,rfl,.one (by constructor<;>assumption)⟩
def P0:SV->AV
 | .bool b=>.bool b
 | .int k (.lit n)=>.int k n
 | .str s=>.str s
 | .cU=>.cU
 | .aU=>.aU
 | .cV=>.cV
 | .dt=>.dt
 | .cW=>.cW
 |_=>.undef
theorem adX (v:SV):VA F g v (P0 v):=by
 unfold P0;split<;>constructor
def dY:List SV->List AV
 | []=> []
 |v::l=>P0 v::dY l
theorem jn:∀(l:List SV),VAs F g l (dY l)
 | []=>.nil
 |v::l=>.cons (adX v) (jn l)
def cq (cs:List AV) (off:Nat) (xs:List AV):List AV:=cs.take off++xs++cs.drop (Nat.add off xs.length)
theorem jj {vs:List SV} {xs:List AV} {ws:List SV} {ys:List AV} (h:VAs F g vs xs) (k:VAs F g ws ys) (off:Nat):VAs F g (bF vs off ws) (cq xs off ys):=h.bF k off
def sU (ts:List (Nat×AV)):List (Nat×Operand)->Option (List (Nat×List AV))
 | []=>some []
 |p::rest=>aG (iK (aL ts p.2)) (sU ts rest) fun cs l=>some ((p.1,cs)::l)
def uA (place:Nat->Option (Nat×Nat)) (cs:List AV):List (Nat×List AV)->Option (List AV)
 | []=>some cs
 |p::rest=>aj (place p.1) fun q=>sel (Nat.beq p.2.length q.2&&Nat.ble (Nat.add q.1 q.2) cs.length) (uA place (cq cs q.1 p.2) rest) none
inductive PVs (F:Hf) (g:Gb):List (Nat×List SV)->List (Nat×List AV)->Prop
 |nil:PVs F g [] []
 |cons {j vs xs l m} (h:VAs F g vs xs) (t:PVs F g l m):PVs F g ((j,vs)::l) ((j,xs)::m)
theorem zJ (r:Rel B F g φ s tm h):∀{l:List (Nat×Operand)} {m:List (Nat×List AV)},sU s.ts l=some m->∃k,ea tm l=some k/\PVs F g k m
 | [],_,hm=>by cases hm;exact ⟨[],rfl,.nil⟩
 |p::rest,m,hm=>by
  obtain ⟨cs,m',h1,h2,h3⟩:=az hm;cases h3;obtain ⟨v,v1,v2⟩:=r.val (x:=p.2) rfl (fun e=>by rw[e] at h1;cases h1)
  obtain ⟨ws,w1,w2⟩:=lP v2 h1;obtain ⟨k,k1,k2⟩:=zJ r h2;refine ⟨(p.1,ws)::k,?_,.cons w2 k2⟩;show aj (aM tm p.2) (fun v=>aG v.cells (ea tm rest) fun cs l=>some ((p.1,cs)::l))=_
  rw[v1];show aG v.cells (ea tm rest) (fun cs l=>some ((p.1,cs)::l))=_
  rw[w1,k1];rfl
theorem xL {place:Nat->Option (Nat×Nat)}:∀{k:List (Nat×List SV)} {m:List (Nat×List AV)} {vs:List SV} {xs ys:List AV},PVs F g k m->VAs F g vs xs->uA place xs m=some ys->∃ws,fR place vs k=some ws/\VAs F g ws ys
 |_,_,vs,_,_,.nil,hv,hy=>by cases hy;exact ⟨vs,rfl,hv⟩
 |_,_,vs,xs,ys,.cons (j:=j) (vs:=pv) (l:=kt) h t,hv,hy=>by
  obtain ⟨q,h1,hy⟩:=af hy;obtain ⟨h2,hy⟩:=ar hy;obtain ⟨ws,w1,w2⟩:=xL t (jj hv h q.1) hy;refine ⟨ws,?_,w2⟩;show aj (place j) (fun q=>sel (Nat.beq pv.length q.2&&Nat.ble (Nat.add q.1 q.2) vs.length) (fR place (bF vs q.1 pv) kt) none)=_
  rw[h1];show sel (Nat.beq pv.length q.2&&Nat.ble (Nat.add q.1 q.2) vs.length) (fR place (bF vs q.1 pv) kt) none=_;rw[h.length,hv.length,h2];exact w1
def L7 (E:Env) (z:List AV) (pcs:List (Nat×List AV)):UD->Option (List AV)
 | .array _ e=>aj (E.ty.get e) fun ie=>uA (jb ie.size) z pcs
 | .struct fs=>uA (A7 E fs) z pcs
 |_=>none
theorem YI {t:TypeId} {parts:Array (Nat×Operand)} {i:TI} {m:List (Nat×List AV)} {ys:List AV} (hi:E.ty.get t=some i) (hm:sU s.ts parts.toList=some m) (hy:L7 E (dY i.zero) m i.desc=some ys):aP E B (.build t parts) s s (.agg ys) none:=aP.pure fun {F g φ tm h new} r=>by
 obtain ⟨k,k1,k2⟩:=zJ r hm;have key:∃ws,oa E t k=some (.agg ws)/\VAs F g ws ys:=by
  unfold oa;rw[hi];show ∃ws,Xn i.desc E i.zero k=some (.agg ws)/\_;generalize i.desc=d at hy;unfold L7 at hy;split at hy
  ·obtain ⟨ie,hie,hy⟩:=af hy;obtain ⟨ws,w1,w2⟩:=xL k2 (jn (F:=F) (g:=g) i.zero) hy;refine ⟨ws,?_,w2⟩;show aj (E.ty.get _) (fun ie=>wW (fR (jb ie.size) i.zero k))=_
   rw[hie];show wW (fR (jb ie.size) i.zero k)=_;rw[w1];rfl
  ·obtain ⟨ws,w1,w2⟩:=xL k2 (jn (F:=F) (g:=g) i.zero) hy;refine ⟨ws,?_,w2⟩;show wW (fR (A7 E _) i.zero k)=_;rw[w1];rfl
  ·cases hy
 obtain ⟨ws,w1,w2⟩:=key;refine ⟨.agg ws,?_,.agg w2⟩;show aj (ea tm parts.toList) (fun pcs=>same (oa E t pcs))=_
 rw[k1];show same (oa E t k)=_;rw[w1];rfl
theorem Pq {K id:Nat} {c:Cp} {e:TypeId} {svs:List SV} {xs:List AV} (hf:VAs F (g.at K id c) svs xs):∀hp':Hf,hp' id=some (.cells e svs)->cD F (g.at K id c) hp' K (.flat e xs) [id]:=fun hp' hh=>by
 have:=cD.flat (F:=F) (g:=g.at K id c) (h:=hp') (K:=K) (e:=e) (cs:=xs) (svs:=svs) (by rw[lv];exact hh) hf
 rwa[lv] at this
theorem abV {K id:Nat} {c:Cp} {off:Nat}:VA F (g.at K id c) (.ptr id off) (.loc K off):=by
 have:=VA.loc (F:=F) (g:=g.at K id c) K off;rwa[lv] at this
theorem YL {K id sz n:Nat} {c:Cp}:VA F (g.at K id c) (.sl id 0 n c) (.ms K sz 0 n):=by
 have:=VA.ms (F:=F) (g:=g.at K id c) (K:=K) sz 0 n adL;rw[lv,adK,Nat.zero_mul] at this;cases c<;>exact this
theorem Eu {K id sz:Nat} {c:Cp} {z:Bool} {e:TypeId} {svs:List SV} {Q:List (List AV)} (hz:z=true->Q≠ []) (hu:∀r∈Q,r.length=sz) (hc:rR e sz Q.length svs.length c) (q:VAs F .no (svs.take (Q.length*sz)) Q.flatten):∀hp':Hf,hp' id=some (.cells e svs)->cD F (g.at K id c) hp' K (.rows z e sz Q) [id]:=fun hp' hh=>by
 have:=cD.rows (F:=F) (g:=g.at K id c) (h:=hp') (K:=K) (z:=z) (e:=e) adL (by rw[lv];exact hh) hz hu (by rw[adK];exact hc) q
 rwa[lv] at this
theorem aga {K:Nat} {e:TypeId} {a:Operand} {y:AV} {xs:List AV} (ha:aL s.ts a=y) (hc:iK y=some xs) (hk:s.free K) (hp:B.pk K=false) (hkx:K∉cQ xs):aP E B (.box e a) s (s.set K (.flat e xs)) (.loc K 0) (some (K,true)):=aP.lay hk hp fun {F g φ tm h new} r=>by
 obtain ⟨v,h1,h2⟩:=r.val ha (fun e=>by subst e;cases hc)
 obtain ⟨cs,c1,c2⟩:=lP h2 hc;refine ⟨.ptr new 0,.cells e cs,?_,abV,Pq (c2.gb (aeY hkx))⟩;show one tm a (xC new e)=_;unfold one;rw[h1];show xC new e v=_;unfold xC;rw[c1];rfl
theorem YJ {K:Nat} {e:TypeId} {i:TI} (hi:E.ty.get e=some i) (hk:s.free K) (hp:B.pk K=false):aP E B (.alloc e) s (s.set K (.flat e (dY i.zero))) (.loc K 0) (some (K,true)):=aP.lay hk hp fun {F g φ tm h new} r=>by
 refine ⟨.ptr new 0,.cells e i.zero,?_,abV,Pq (jn _)⟩;show DD E new e=_;unfold DD;rw[hi];rfl
def mF (sz:Nat):Nat->List AV->List (List AV)
 |0,_=> []
 |n+1,cs=>cs.take sz::mF sz n (cs.drop sz)
theorem L1 {sz:Nat}:∀{n:Nat} {cs:List AV},cs.length=n*sz->(mF sz n cs).length=n/\(∀r∈mF sz n cs,r.length=sz)/\(mF sz n cs).flatten=cs
 |0,cs,hl=>by
  rw[Nat.zero_mul] at hl;rw[List.length_eq_zero_iff.1 hl];exact ⟨rfl,fun r hr=>(by cases hr),rfl⟩
 |n+1,cs,hl=>by
  rw[Nat.add_mul,Nat.one_mul] at hl;obtain ⟨a,b,c⟩:=L1 (sz:=sz) (n:=n) (cs:=cs.drop sz) (by rw[List.length_drop];omega)
  refine ⟨by show (mF sz n (cs.drop sz)).length+1=_;rw[a],fun r hr=> ?_,?_⟩
  ·rcases List.mem_cons.1 (show r∈cs.take sz::mF sz n (cs.drop sz) from hr) with rfl|hr
   ·rw[List.length_take];omega
   ·exact b r hr
  ·show cs.take sz++(mF sz n (cs.drop sz)).flatten=cs;rw[c,List.take_append_drop]
def tS (z:List AV):Nat->List AV
 |0=> []
 |n+1=>z++tS z n
theorem A3 {z:List SV} {x:List AV} (hz:VAs F g z x):∀n,VAs F g (rep z n) (tS x n)
 |0=>.nil
 |n+1=>hz.append (A3 hz n)
theorem Fp {place:Nat->Option (Nat×Nat)}:∀{m:List (Nat×List AV)} {xs ys:List AV},uA place xs m=some ys->ys.length=xs.length
 | [],_,_,hy=>by cases hy;rfl
 |p::rest,xs,ys,hy=>by
  obtain ⟨q,h1,hy⟩:=af hy;obtain ⟨h2,hy⟩:=ar hy;rw[Fp hy];rw[Bool.and_eq_true] at h2;have e1:p.2.length=q.2:=(beq_iff _ _).1 h2.1;have e2:q.1+q.2<=xs.length:=Nat.le_of_ble_eq_true h2.2;unfold cq;rw[List.length_append,List.length_append,List.length_take,List.length_drop,show Nat.add q.1 p.2.length=q.1+p.2.length from rfl];omega
theorem zt {ie:TI} (h:dP ie=true):ie.zero.length=ie.size:=by
 unfold dP at h;rw[Bool.and_eq_true,Bool.and_eq_true] at h;exact (beq_iff _ _).1 h.2.2
theorem Dz (z:List AV):∀n,(tS z n).length=n*z.length
 |0=>by simp[tS]
 |n+1=>by show (z++tS z n).length=_;rw[List.length_append,Dz z n,Nat.add_mul,Nat.one_mul,Nat.add_comm]
theorem oF:∀l:List SV,(dY l).length=l.length
 | []=>rfl
 |v::l=>by show (dY l).length+1=_;rw[oF l];rfl
def iI (E:Env) (t:TypeId):Option (TypeId×TI):=aj (E.ty.get t) fun i=>aj (ja i.desc) fun e=>aj (E.ty.get e) fun ie=>some (e,ie)
theorem jy {t:TypeId} {p:TypeId×TI} (h:iI E t=some p):∃i,E.ty.get t=some i/\ja i.desc=some p.1/\E.ty.get p.1=some p.2:=by
 obtain ⟨i,hi,h⟩:=af h;obtain ⟨e,he,h⟩:=af h;obtain ⟨ie,hie,h⟩:=af h;cases h;exact ⟨i,hi,he,hie⟩
theorem FK {K:Nat} {t:TypeId} {len:Nat} {parts:Array (Nat×Operand)} {p:TypeId×TI} {m:List (Nat×List AV)} {ys:List AV} (hp':iI E t=some p) (hok:(dP p.2&&Nat.ble (Nat.mul len p.2.size) 16777216)=true) (hm:sU s.ts parts.toList=some m)
  (hy:uA (jb p.2.size) (tS (dY p.2.zero) len) m=some ys) (hk:s.free K) (hp:B.pk K=false) (hky:(cQ ys).isEmpty=true):aP E B (.buildSlice t len parts) s (s.set K (.rows false p.1 p.2.size (mF p.2.size len ys))) (.ms K p.2.size 0 len) (some (K,true)):=aP.lay hk hp fun {F g φ tm h new} r=>by
 obtain ⟨i,hi,he,hie⟩:=jy hp';obtain ⟨k,k1,k2⟩:=zJ r hm;obtain ⟨ws,w1,w2⟩:=xL k2 (A3 (jn (F:=F) (g:=g) p.2.zero) len) hy;have hok1:=(Bool.and_eq_true_iff.1 hok).1;have hlen:ys.length=len*p.2.size:=by rw[Fp hy,Dz,oF,zt hok1]
 obtain ⟨c1,c2,c3⟩:=L1 hlen;refine ⟨.sl new 0 len (.k len),.cells p.1 ws,?_,YL,Eu (fun e=>by cases e) c2 (by rw[c1];exact ⟨Nat.le_refl _,by rw[w2.length,hlen]⟩) ?_⟩
 ·show aj (ea tm parts.toList) (fun pcs=>gQ E new t len pcs)=_
  rw[k1];show gQ E new t len k=_;unfold gQ;rw[hi];show aj (ja i.desc) _=_;rw[he];show aj (E.ty.get p.1) _=_;rw[hie];show sel (dP p.2&&Nat.ble (Nat.mul len p.2.size) 16777216) (aj (fR (jb p.2.size) (rep p.2.zero len) k) fun cs=>some (SV.sl new 0 len (.k len),[(new,some (SO.cells p.1 cs))])) none=_
  rw[hok,w1];rfl
 ·rw[c1,c3,List.take_of_length_le (by rw[w2.length,hlen];exact Nat.le_refl _)]
  exact w2.fH hky
theorem Kv {K:Nat} {t:TypeId} {a c:Operand} {p:TypeId×TI} {l m:Nat} {k1 k2:IntKind} {n1 n2:Int} (hp':iI E t=some p) (hok:dP p.2=true) (ha:aL s.ts a= .int k1 n1) (hc:aL s.ts c= .int k2 n2) (h1:n1=(l:Int)) (h2:n2=(m:Int)) (hl:l<=m) (hm:m<=1000000) (hk:s.free K) (hp:B.pk K=false) (hkz:(cQ (dY p.2.zero)).isEmpty=true):
  aP E B (.makeSlice t a c) s (s.set K (.rows false p.1 p.2.size (List.replicate l (dY p.2.zero)))) (.ms K p.2.size 0 l) (some (K,true)):=aP.lay hk hp fun {F g φ tm h new} r=>by
 subst h1;subst h2;obtain ⟨i,hi,he,hie⟩:=jy hp';obtain ⟨v,v1,v2⟩:=r.val ha (by simp)
 obtain ⟨w,w1,w2⟩:=r.val hc (by simp)
 cases v2;cases w2;have hsz:=zt hok;have hrep:∀n,tS (dY p.2.zero) n=(List.replicate n (dY p.2.zero)).flatten:=fun n=>by
  induction n with
  |zero=>rfl
  |succ n ih=>show dY p.2.zero++tS _ n=_;rw[ih,List.replicate_succ,List.flatten_cons]
 have hlr:∀n,(rep p.2.zero n).length=n*p.2.size:=fun n=>by rw[(A3 (F:=fun _=>none) (g:=.no) (jn p.2.zero) n).length,Dz,oF,hsz]
 refine ⟨.sl new 0 l (.k m),.cells p.1 (rep p.2.zero m),?_,YL,Eu (fun e=>by cases e) (fun r hr=>by rw[List.eq_of_mem_replicate hr,oF,hsz]) (by rw[List.length_replicate];exact ⟨hl,hlr m⟩) ?_⟩
 ·show two tm a c (fun u v=>aG (eW u) (eW v) (qg E new t))=_
  unfold two;rw[v1,w1];show qg E new t l m=_;unfold qg;rw[hi];show aj (ja i.desc) _=_;rw[he];show aj (E.ty.get p.1) _=_;rw[hie];show sel (Nat.ble l m&&(Nat.ble m 1000000&&dP p.2)) (some (SV.sl new 0 l (.k m),[(new,some (SO.cells p.1 (rep p.2.zero m)))])) none=_;rw[(bk _ _).2 hl,(bk _ _).2 hm,hok];rfl
 ·rw[List.length_replicate,<-hrep];have agm:∀l m,l<=m->(rep p.2.zero m).take (l*p.2.size)=rep p.2.zero l:=by
   intro l;induction l with
   |zero=>intro m _;simp[rep]
   |succ l ih=>
    intro m hlm;obtain ⟨m',rfl⟩:∃m',m=m'+1:=⟨m-1,by omega⟩
    show (p.2.zero++rep p.2.zero m').take ((l+1)*p.2.size)=p.2.zero++rep p.2.zero l;rw[Nat.add_mul,Nat.one_mul,Nat.add_comm,<-hsz,List.take_length_add_append,hsz,ih m' (by omega)]
  rw[agm l m hl];exact A3 (jn _) l
theorem QH {K:Nat} {t:TypeId} (hk:s.free K) (hp:B.pk K=false):aP E B (.makeMap t none) s (s.set K (.map [])) (.mp K) (some (K,true)):=aP.lay hk hp fun {F g φ tm h new} r=>by
 refine ⟨.mp new,.map [] 0,rfl,?_,fun hp' hh=> ?_⟩
 ·have:=VA.mp (F:=F) (g:=g.at K new (.k 0)) K;rwa[lv] at this
 ·have:=cD.map (F:=F) (g:=g.at K new (.k 0)) (h:=hp') (K:=K) (es:= []) (ms:= []) (c:=0) (by rw[lv];exact hh) .nil .nil
  rwa[lv] at this
theorem YF {K:Nat} {t:TypeId} {a:Operand} {i:TI} {b:ByteArray} (hi:E.ty.get t=some i) (hd:nX i.desc=true) (ha:aL s.ts a= .str b) (hk:s.free K) (hp:B.pk K=false):aP E B (.range t a) s (s.set K (.iter b 0)) (.it K) (some (K,true)):=aP.lay hk hp fun {F g φ tm h new} r=>by
 obtain ⟨v,v1,v2⟩:=r.val ha (by simp)
 cases v2;refine ⟨.ptr new 0,.ia b 0,?_,?_,fun hp' hh=> ?_⟩
 ·show one tm a (l6 E h.hp.get new t)=_;unfold one;rw[v1];show aj (E.ty.get t) (fun i=>aj (vO i.desc (.str b) h.hp.get) fun o=>some (SV.ptr new 0,[(new,some o)]))=_
  rw[hi];show aj (vO i.desc (.str b) h.hp.get) _=_;generalize i.desc=d at hd;cases d<;>first|(cases hd;done)|rfl
 ·have:=VA.it (F:=F) (g:=g.at K new (.k 0)) K;rwa[lv] at this
 ·have:=cD.iter (F:=F) (g:=g.at K new (.k 0)) (h:=hp') (K:=K) (s:=b) (pos:=0) (by rw[lv];exact hh)
  rwa[lv] at this
end
section
variable {F F':Hf} {g g':Gb} {B:Bs} {φ:Nat->List Nat} {s s' s1:LS} {tm:Tf} {h:Hs} {hp:Hf} {E:Env} {nt:Nat} {all l:List Oper}
def rO (s:LS) (sz:Nat) (y:AV) (R:List (List AV)):Prop:=y≠ .undef/\∀{B:Bs} {F:Hf} {g:Gb} {φ:Nat->List Nat} {tm:Tf} {h:Hs} {v:SV},Rel B F g φ s tm h->VA F g v y->∃xs,iu h.hp.get sz v=some (R.length,xs)/\VAs F .no xs R.flatten/\∀r∈R,r.length=sz
theorem Uw {sz id off n:Nat} {c:Cp} {e:TypeId} {svs:List SV} (hh:cL (hp id) off (n*sz)=some (e,svs)) (hl:off+n*sz<=svs.length):iu hp sz (.sl id off n c)=some (n,(svs.drop off).take (n*sz)):=by
 show dO hp sz (.sl id off n c)=_;unfold dO;refine lQ (a:=n) rfl (b:=((svs.drop off).take (n*sz))) ?_;show eV hp id off (Nat.mul n sz)=_;unfold eV;rw[show cL (hp id) off (Nat.mul n sz)=some (e,svs) from hh];show sel (Nat.ble (Nat.add off (Nat.mul n sz)) svs.length) (some ((svs.drop off).take (n*sz))) none=_;rw[show Nat.ble (Nat.add off (Nat.mul n sz)) svs.length=true from Nat.ble_eq_true_of_le hl]
theorem Yg {y:AV} {e:TypeId} {sz:Nat} {R:List (List AV)} (hy:kX y=some (e,sz,R)):rO s sz y R:=⟨fun e=>(by subst e;cases hy),fun {B F g φ tm h v} r hv=>by
 rcases o8 hv hy with ⟨rfl,rfl|rfl⟩|⟨id,off,c,e',svs,rfl,_,hF,hu,hl,hq⟩
 ·exact ⟨[],rfl,.nil,fun r hr=>by cases hr⟩
 ·exact ⟨[],rfl,.nil,fun r hr=>by cases hr⟩
 ·exact ⟨_,Uw (iR r.sub hF) hl,hq,hu⟩⟩
theorem aek {sz:Nat}:rO s sz .aU []:=⟨by simp,fun {B F g φ tm h v} r hv=>by cases hv;exact ⟨[],rfl,.nil,fun r hr=>by cases hr⟩⟩
theorem JU {sz lo n:Nat} {α:Type} {Q:List (List α)} (hu:∀r∈Q,r.length=sz):((Q.drop lo).take n).flatten=(Q.flatten.drop (lo*sz)).take (n*sz):=by
 rw[iG (fun r hr=>hu r (List.mem_of_mem_drop hr)),jm hu]
theorem ael {K sz lo n:Nat} {z:Bool} {e:TypeId} {Q R:List (List AV)} (hb:lk K s.bs=some (.rows z e sz Q)) (hR:(Q.drop lo).take n=R) (hn:lo+n<=Q.length):rO s sz (.ms K sz lo n) R:=⟨by simp,fun {B F g φ tm h v} r hv=>by
 subst hR;have q:=r.bx K _ hb;generalize φ K=fp at q;cases q with
 |cH hb'=>
  cases hv with
  |msN=>exact ⟨[],by simp;rfl,by simp;exact .nil,fun r hr=>by simp at hr⟩
  |msE=>exact ⟨[],by simp;rfl,by simp;exact .nil,fun r hr=>by simp at hr⟩
  |ms _ _ _ hb0=>rw[hb'] at hb0;cases hb0
 | @rows _ _ _ _ svs hb' hh hz hu hc q=>
  have hl:=eA hc;have hle:lo*sz+n*sz<=Q.length*sz:=by rw[<-Nat.add_mul];exact Nat.mul_le_mul_right _ hn
  have hlen:((Q.drop lo).take n).length=n:=by rw[List.length_take,List.length_drop];omega
  have hus:∀r∈(Q.drop lo).take n,r.length=sz:=fun r hr=>hu r (List.mem_of_mem_drop (List.mem_of_mem_take hr))
  have hq:VAs F .no ((svs.drop (lo*sz)).take (n*sz)) ((Q.drop lo).take n).flatten:=by
   have:=(q.drop (lo*sz)).take (n*sz);rwa[List.drop_take,List.take_take,Nat.min_eq_left (by omega),<-JU hu] at this
  cases hv with
  |msN _ hb0=>rw[hb'] at hb0;cases hb0
  |msE=>exact ⟨[],by simp;rfl,by simp;exact .nil,fun r hr=>by simp at hr⟩
  |ms _ _ _ _=>
   exact ⟨_,by rw[hlen];exact Uw (fy hh) (by omega),hq,hus⟩⟩
def gn (K:Nat) (x:AV):AV:=sel (eh K (bV x)) .undef x
def qA (K:Nat):List AV->List AV
 | []=> []
 |x::l=>gn K x::qA K l
theorem oX (K:Nat) (x:AV):K∉bV (gn K x):=by
 unfold gn;rw[aC];split
 ·exact fun hc=>by cases hc
 ·rename_i hx;exact fun hc=>hx ((lI _ _).2 hc)
theorem ux {K:Nat} {x:AV} {v:SV} (q:VA F g v x):VA F g v (gn K x):=by
 unfold gn;rw[aC];split
 ·exact .undef v
 ·exact q
theorem Fk {K:Nat}:∀{xs:List AV} {vs:List SV},VAs F g vs xs->VAs F g vs (qA K xs)
 | [],_,q=>by cases q;exact .nil
 |x::l,_,q=>by cases q with|cons h t=>exact .cons (ux h) (Fk t)
theorem zp (K:Nat):∀(l:List AV),K∉cQ (qA K l)
 | [],hc=>by cases hc
 |x::l,hc=>(List.mem_append.1 (show K∈bV (gn K x)++cQ (qA K l) from hc)).elim (oX K x) (zp K l)
def Bx.cZ (K:Nat):Bx->Bx
 | .flat e cs=>.flat e (qA K cs)
 | .hole e s Q i x=>.hole e s Q i (gn K x)
 | .own e e' s Q o=>.own e e' s Q (DQ (gn K) o)
 |b=>b
def LS.cZ (s:LS) (K:Nat):LS:=⟨s.ts.map fun p=>(p.1,gn K p.2),s.bs.map fun p=>(p.1,p.2.cZ K)⟩
theorem Fj (s:LS) (K:Nat):(s.cZ K).free K:=by
 refine ⟨fun t x hx=> ?_,fun k b hne hb=> ?_⟩
 ·rw[show (s.cZ K).ts=s.ts.map fun p=>(p.1,gn K p.2) from rfl,gT] at hx
  obtain ⟨y,_,rfl⟩:=Option.map_eq_some_iff.1 hx;exact oX K y
 ·rw[show (s.cZ K).bs=s.bs.map fun p=>(p.1,p.2.cZ K) from rfl,gT] at hb
  obtain ⟨y,_,rfl⟩:=Option.map_eq_some_iff.1 hb;cases y with
  |flat e cs=>exact zp K cs
  |hole e s Q i x=>exact oX K x
  |own e e' s Q o=>cases o with|none=>exact fun hc=>by cases hc|some p=>exact oX K p.2
  |_=>exact fun hc=>by cases hc
theorem Ab (r:Rel B F g φ s tm h) (K:Nat):Rel B F g φ (s.cZ K) tm h:=by
 have back:∀{k b'},lk k (s.cZ K).bs=some b'->∃b,lk k s.bs=some b/\b'=b.cZ K:=fun {k b'} hb=>by
  rw[show (s.cZ K).bs=s.bs.map fun p=>(p.1,p.2.cZ K) from rfl,gT] at hb
  obtain ⟨b,hb1,rfl⟩:=Option.map_eq_some_iff.1 hb;exact ⟨b,hb1,rfl⟩
 refine {r with tm:=fun t y hy hn=> ?_,bx:=fun k b hb=> ?_,dj:=fun k k' b b' hb hb'=> ?_,nf:=fun k b hb=> ?_,gJ:=fun k b hb=> ?_}
 ·rw[show (s.cZ K).ts=s.ts.map fun p=>(p.1,gn K p.2) from rfl,gT] at hy
  obtain ⟨x,hx,rfl⟩:=Option.map_eq_some_iff.1 hy;by_cases hu:x= .undef
  ·subst hu;exact absurd rfl hn
  ·obtain ⟨v,v1,v2⟩:=r.tm t x hx hu;exact ⟨v,v1,ux v2⟩
 ·obtain ⟨b0,h0,rfl⟩:=back hb;have q:=r.bx k b0 h0;generalize φ k=fp at q ⊢;cases q with
  |flat hh q=>exact .flat hh (Fk q)
  |cH hb1=>exact .cH hb1
  |rows hb1 hh hz hu hc q=>exact .rows hb1 hh hz hu hc q
  |map hh q1 q2=>exact .map hh q1 q2
  |iter hh=>exact .iter hh
  |hole hb1 hh hu hc q hi hv hx=>exact .hole hb1 hh hu hc q hi hv (ux hx)
  |jq hb1=>exact .jq hb1
  |own hb1 hh hc q nd ho=>
   refine .own hb1 hh hc q nd fun i x e=> ?_
   obtain ⟨y,e1,rfl⟩:=nU e;subst e1;obtain ⟨a,v,b,c⟩:=ho i y rfl;exact ⟨a,v,b,ux c⟩
 ·obtain ⟨c,hc,_⟩:=back hb;obtain ⟨c',hc',_⟩:=back hb';exact r.dj k k' c c' hc hc'
 ·obtain ⟨b0,h0,_⟩:=back hb;exact r.nf k b0 h0
 ·obtain ⟨b0,h0,_⟩:=back hb;exact r.gJ k b0 h0
theorem Xb {K:Nat} {z:Bool} {e:TypeId} {sz:Nat} {Q:List (List AV)} (hb:lk K s.bs=some (.rows z e sz Q)):lk K (s.cZ K).bs=some (.rows z e sz Q):=by
 rw[show (s.cZ K).bs=s.bs.map fun p=>(p.1,p.2.cZ K) from rfl,gT,hb]
 rfl
theorem Xx {e:TypeId} {m:Nat} {xs:List SV} {v w:SV} {t:TypeId} {i ie:TI} (hi:E.ty.get t=some i) (hd:ja i.desc=some e) (he:E.ty.get e=some ie) (hok:dP ie=true) (hw:iu hp ie.size w=some (m,xs)) (hm:m<=1000000) {new:Nat}:
  gp E hp new t v w=sel (Nat.beq m 0) (sel (DY v) (some (v,[])) none) (pg v hp new e ie.size m xs):=by
 unfold gp;rw[cY hi,cY hd];unfold Ey;rw[cY he,hok];show aj (iu hp ie.size w) (fun q=>sel (Nat.ble q.1 1000000) (sel (Nat.beq q.1 0) (sel (DY v) (some (v,[])) none) (pg v hp new e ie.size q.1 q.2)) none)=_
 rw[cY hw];show sel (Nat.ble m 1000000) _ none=_;rw[show Nat.ble m 1000000=true from Nat.ble_eq_true_of_le hm]
theorem aaA {K sz n:Nat} {c:Cp} (h1:g.β K=true) (h2:g.κ K=c):VA F g (.sl (g.ρ K) 0 n c) (.ms K sz 0 n):=by
 have:=VA.ms (F:=F) (g:=g) (K:=K) sz 0 n h1;rw[Nat.zero_mul,h2] at this;cases c<;>exact this
theorem Sw {K new:Nat} (r:Rel B F g φ s tm h) (eM:h.hp.get new=none) (hlo:B.nx<=new) (hk:s.free K) (hpk:B.pk K=false) {e:TypeId} {Q P R:List (List AV)} {z z':Bool} {n:Nat} {v w:SV} {t:TypeId} {i ie:TI} {xs:List SV} (hi:E.ty.get t=some i) (hd:ja i.desc=some e) (he:E.ty.get e=some ie) (hok:dP ie=true)
  (hv:VA F g v (.ms K ie.size 0 n)) (hw:iu h.hp.get ie.size w=some (R.length,xs)) (hx:VAs F .no xs R.flatten) (hu:∀x∈R,x.length=ie.size) (hP:Q.take n=P) (hn:n<=Q.length) (hn6:n<=1000000) (hR:R.length<=1000000) (hz':z'=true->z=true/\n=Q.length) (hb:lk K s.bs=some (.rows z e ie.size Q)):
  ∃v' us,gp E h.hp.get new t v w=some (v',us)/\(∀h',Upd h us new h'\/(us= []/\h'=h)->Rel B F (qG g (some (K,false)) new us v') (o9 φ (some (K,false)) new us) (s.set K (.rows z' e ie.size (P++R))) tm h')/\VA F (qG g (some (K,false)) new us v') v' (.ms K ie.size 0 (P++R).length)/\∀u∈us,u.1=new\/u.1∈φ K:=by
 have hPl:P.length=n:=by rw[<-hP,List.length_take];omega
 have hlen:(P++R).length=n+R.length:=by rw[List.length_append,hPl]
 have q:=r.bx K _ hb;have hsl:DY v=true:=by cases hv<;>rfl
 rw[Xx hi hd he hok hw hR];by_cases hR0:R.length=0
 ·have hRn:R= []:=List.length_eq_zero_iff.1 hR0;refine ⟨v,[],?_,?_,by rw[hlen,hR0];exact hv,fun u hu=>(by cases hu)⟩
  ·rw[hR0];show sel (DY v) (some (v,[])) none=_;rw[hsl]
  ·have aiz:kQ s (s.set K (.rows z' e ie.size (P++R))):=⟨fun t y hy=>.inr ⟨y,hy,WV.refl y⟩,fun k b' hb'=>by
    rw[show (s.set K (.rows z' e ie.size (P++R))).bs=(K,.rows z' e ie.size (P++R))::s.bs from rfl,aW] at hb';split at hb'
    ·rename_i ek;cases hb';subst ek;refine ⟨_,hb,fun F g h K fp q=> ?_⟩
     rw[hRn,List.append_nil];generalize hQ:Bx.rows z e ie.size Q=bb at q;cases q with
     |flat|map|iter|hole|own|jq=>cases hQ
     |cH hb0=>cases hQ;rw[<-hP];simp only[List.take_nil];exact .cH hb0
     |rows hb0 hh hz hu0 hc q=>
      cases hQ;have hl:=eA hc;have hle:n*ie.size<=Q.length*ie.size:=Nat.mul_le_mul_right _ hn;refine .rows hb0 hh (fun e0=> ?_) (fun r hr=>hu0 r ?_) ?_ ?_
      ·obtain ⟨z1,z2⟩:=hz' e0;rw[<-hP,z2,List.take_length];exact hz z1
      ·rw[<-hP] at hr;exact List.mem_of_mem_take hr
      ·rw[hPl];cases hκ:g.κ K with
       |k m=>rw[hκ] at hc;exact ⟨Nat.le_trans hn hc.1,hc.2⟩
       |u e'=>rw[hκ] at hc;exact ⟨hc.1,Nat.le_trans hle hc.2⟩
      ·rw[hPl,<-hP,iG hu0];have:=q.take (n*ie.size);rwa[List.take_take,Nat.min_eq_left hle] at this
    ·exact ⟨b',hb',WB.refl b'⟩⟩
   have r1:=r.less aiz;intro h' hu;show Rel B F g φ _ tm h';rcases hu with ⟨u1,u2,u3,u4⟩|⟨_,rfl⟩
   ·exact {r1 with bx:=fun k b hb=>(r1.bx k b hb).fL (Hle.refl F) fun i _=>u1 i,sub:=fun id o ho=>(u1 id).trans (r1.sub id o ho),bd:=fun x hx=>(u1 x).trans (r1.bd x (Nat.le_trans u2 hx)),nx:=Nat.le_trans r1.nx u2,old:=fun x hx hp=>(u1 x).trans (r1.old x hx hp),lg:=fun x hx=>r1.lg x (u4 x hx)}
   ·exact r1
 rw[show Nat.beq R.length 0=false from by
  cases hx:Nat.beq R.length 0 with
  |false=>rfl
  |true=>exact absurd ((beq_iff _ _).1 hx) hR0]
 show ∃v' us,pg v h.hp.get new e ie.size R.length xs=some (v',us)/\_;have hRne:P++R≠ []:=fun hc=>hR0 (by rw[(List.append_eq_nil_iff.1 hc).2];rfl)
 have hx2:xs.length=R.length*ie.size:=by rw[hx.length,uy hu]
 have hlt:=r.lt hb;generalize hφ:φ K=fp at q hlt;have hfo:∀i∈fp,∃b,lk K s.bs=some b/\i∈φ K:=fun i hi=>⟨_,hb,by rw[hφ];exact hi⟩
 have Rz:∀(us:List Up) (old:List SV),us≠ []->VAs F .no old P.flatten->old.length=n*ie.size->(∀x∈P,x.length=ie.size)->(h.ups us).hp.get new=some (.cells e (old++xs))->(∀x,x≠new->x∉fp->(h.ups us).hp.get x=h.hp.get x)->(∀x∈fp,(h.ups us).hp.get x=h.hp.get x\/(h.ups us).hp.get x=none)->(∀x∈(h.ups us).lg,x=new\/x∈fp\/x∈h.lg)->(∀u∈us,u.1=new\/u.1∈fp)->
   dG new us=true->(∀h',Upd h us new h'\/(us= []/\h'=h)->Rel B F (qG g (some (K,false)) new us (.sl new 0 (Nat.add n R.length) (.u e))) (o9 φ (some (K,false)) new us) (s.set K (.rows z' e ie.size (P++R))) tm h')/\VA F (qG g (some (K,false)) new us (.sl new 0 (Nat.add n R.length) (.u e))) (.sl new 0 (Nat.add n R.length) (.u e)) (.ms K ie.size 0 (P++R).length)/\∀u∈us,u.1=new\/u.1∈fp:=fun us old hus o1 o2 o3 u1 u2 u2' u4 u5 hN=>by
  rw[Al hN,Fy hN];have hl:(old++xs).length=(P++R).length*ie.size:=by rw[List.length_append,o2,hx2,hlen,Nat.add_mul]
  refine ⟨fun h' hu=> ?_,by rw[hlen];exact YL,fun u hu=>u5 u hu⟩
  rcases hu with ⟨w1,w2,w3,w4⟩|⟨hc,_⟩
  rotate_left
  ·exact absurd hc hus
  refine r.chg (K:=K) (b':=.rows z' e ie.size (P++R)) (fo:=fp) (fp:= [new]) hfo (fun i hi=>.inr (by rw[List.mem_singleton.1 hi];exact ⟨eM,hlo⟩)) (fun x h1 h2=>by rw[w1];exact u2 x (fun e0=>h2 (by simp[e0])) h1) w2 (fun x hx=> ?_) (fun x hx=> ?_) (Eu (fun _=>hRne) (fun x hx=>(List.mem_append.1 hx).elim (o3 x) (hu x)) (show rR e ie.size (P++R).length (old++xs).length (.u e) from ⟨rfl,by rw[hl];exact Nat.le_refl _⟩) ?_ _ (by rw[w1];exact u1)) (.inr ⟨hk,hpk,fun k hne=>Sv hne⟩)
  ·rw[w1,u2 x (by omega) (fun hc=>by have:=hlt x hc;omega)]
   exact r.bd x (by omega)
  ·rcases u4 x (w4 x hx) with h1|h1|h1
   ·exact .inr (.inr (by simp[h1]))
   ·exact .inr (.inl h1)
   ·exact .inl h1
  ·rw[<-hl,List.take_length,List.flatten_append];exact o1.append hx
 cases q with
 |cH hb'=>
  have hv':v= .aU:=by
   cases hv with
   |msN=>rfl
   |msE _ _ h0=>cases h0
   |ms _ _ _ hb0=>rw[hb'] at hb0;cases hb0
  subst hv';have hn0:n=0:=Nat.le_zero.1 hn;have hP0:P= []:=by rw[<-hP];simp
  obtain ⟨r1,r2,r3⟩:=Rz [(new,some (.cells e xs))] [] (by simp) (by rw[hP0];exact .nil) (by rw[hn0,Nat.zero_mul];rfl) (fun x hx=>by rw[hP0] at hx;cases hx) (by rw[iS,if_pos rfl];rfl) (fun x hx _=>by rw[iS,if_neg hx]) (fun x hx=>by cases hx) (fun x hx=>by
   rw[CZ] at hx;rcases List.mem_cons.1 hx with h1|h1
   ·exact .inl h1
   ·exact .inr (.inr h1)) (fun u hu=>.inl (by rw[List.mem_singleton.1 hu])) (ry List.mem_cons_self)
  rw[hn0,show Nat.add 0 R.length=R.length from Nat.zero_add _] at r1 r2;exact ⟨_,_,rfl,r1,r2,r3⟩
 | @rows _ _ _ _ svs hb' hh hz hu' hc q=>
  have hvs:v= .sl (g.ρ K) 0 n (g.κ K):=by
   cases hv with
   |msN s hb0=>rw[hb'] at hb0;cases hb0
   |msE _ _ h0=>cases h0
   |ms s lo n hb0=>rw[Nat.zero_mul];cases g.κ K<;>rfl
  have hl:=eA hc;have hle:n*ie.size<=Q.length*ie.size:=Nat.mul_le_mul_right _ hn;have o2:(svs.take (n*ie.size)).length=n*ie.size:=by rw[List.length_take];omega
  have o3:∀x∈P,x.length=ie.size:=fun x hx=>hu' x (by rw[<-hP] at hx;exact List.mem_of_mem_take hx)
  have o1:VAs F .no (svs.take (n*ie.size)) P.flatten:=by
   have:=q.take (n*ie.size);rw[List.take_take,Nat.min_eq_left hle,<-iG hu',hP] at this;exact this
  have hold:eV h.hp.get (g.ρ K) 0 (Nat.mul n ie.size)=some (svs.take (n*ie.size)):=by
   unfold eV;rw[hh];show sel (Nat.ble (Nat.add 0 (Nat.mul n ie.size)) svs.length) (some ((svs.drop 0).take (n*ie.size))) none=_;rw[show Nat.ble (Nat.add 0 (Nat.mul n ie.size)) svs.length=true from Nat.ble_eq_true_of_le (by rw[show Nat.add 0 (Nat.mul n ie.size)=n*ie.size from Nat.zero_add _];omega)]
   rfl
  have hto:pg v h.hp.get new e ie.size R.length xs=xY new e ie.size (g.ρ K) 0 n (g.κ K) R.length xs (e,svs) (svs.take (n*ie.size)):=by
   rw[hvs];show xZ h.hp.get new e ie.size R.length xs (g.ρ K) 0 n (g.κ K)=_;unfold xZ;rw[show Nat.ble n 1000000=true from Nat.ble_eq_true_of_le hn6];show sel (Gi n R.length (g.κ K)) _ _=_;rw[aC];split
   ·rename_i wj;rw[cY hold];cases hκ:g.κ K with
    |u e'=>rw[hκ] at wj;cases wj
    |k m=>
     rw[hκ] at wj;have wj:m<n+R.length:=Nat.le_of_ble_eq_true wj;show _=sel (Nat.ble (Nat.add n R.length) m) _ _;rw[show Nat.ble (Nat.add n R.length) m=false from by
      cases hx:Nat.ble (Nat.add n R.length) m with
      |false=>rfl
      |true=>exact absurd (Nat.le_of_ble_eq_true hx) (by show ¬n+R.length<=m;omega)]
   ·exact lQ (by rw[hh];rfl) hold
  have hρ:g.ρ K<h.nx:=hlt _ (by simp)
  rw[hto];cases hκ:g.κ K with
  |u e'=>
   rw[hκ] at hc;obtain ⟨rfl,hl2⟩:=hc;have e1:xY new e' ie.size (g.ρ K) 0 n (.u e') R.length xs (e',svs) (svs.take (n*ie.size))=some (.sl new 0 (Nat.add n R.length) (.u e'),[(g.ρ K,none),(new,some (.cells e' (svs.take (n*ie.size)++xs)))]):=by
    show sel (Nat.ble (Nat.add 0 (Nat.mul n ie.size)) svs.length&&Nat.beq e' e') _ none=_;rw[show Nat.ble (Nat.add 0 (Nat.mul n ie.size)) svs.length=true from Nat.ble_eq_true_of_le (by rw[show Nat.add 0 (Nat.mul n ie.size)=n*ie.size from Nat.zero_add _];omega),show Nat.beq e' e'=true from (beq_iff _ _).2 rfl]
    rfl
   obtain ⟨r1,r2,r3⟩:=Rz [(g.ρ K,none),(new,some (.cells e' (svs.take (n*ie.size)++xs)))] _ (by simp) o1 o2 o3 (by
    show ((h.hp.set (g.ρ K) none).set new _).get new=_;rw[Tr.dv,if_pos rfl]) (fun x hx hx'=>by
    show ((h.hp.set (g.ρ K) none).set new _).get x=_;rw[Tr.dv,if_neg hx,Tr.dv,if_neg (fun e0=>hx' (by simp[e0]))]) (fun x hx=>by
    have ex:x=g.ρ K:=by simpa using hx
    have hne:x≠new:=fun e0=>by rw[<-e0,ex,hh] at eM;cases eM
    show ((h.hp.set (g.ρ K) none).set new _).get x=_\/((h.hp.set (g.ρ K) none).set new _).get x=_;rw[Tr.dv,if_neg hne,Tr.dv,if_pos ex];exact .inr rfl) (fun x hx=>by
    have:x∈new::g.ρ K::h.lg:=hx;simpa using this) (fun u hu=>by
    rcases List.mem_cons.1 hu with rfl|hu
    ·exact .inr (by simp)
    ·exact .inl (by rw[List.mem_singleton.1 hu])) (ry (List.mem_cons_of_mem _ List.mem_cons_self))
   exact ⟨_,_,e1,r1,r2,r3⟩
  |k m=>
   rw[hκ] at hc;obtain ⟨hc1,hc2⟩:=hc;have e1:xY new e ie.size (g.ρ K) 0 n (.k m) R.length xs (e,svs) (svs.take (n*ie.size))=sel (Nat.ble (Nat.add n R.length) m) (sel (Nat.ble (Nat.add 0 (Nat.mul (Nat.add n R.length) ie.size)) svs.length) (some (.sl (g.ρ K) 0 (Nat.add n R.length) (.k m),[(g.ρ K,some (.cells e (bF svs (Nat.add 0 (Nat.mul n ie.size)) xs)))])) none) (mj new e (Nat.add n R.length) (svs.take (n*ie.size)++xs) []):=rfl;cases xJ:Nat.ble (Nat.add n R.length) m with
   |false=>
    obtain ⟨r1,r2,r3⟩:=Rz [(new,some (.cells e (svs.take (n*ie.size)++xs)))] _ (by simp) o1 o2 o3 (by rw[iS,if_pos rfl]) (fun x hx _=>by rw[iS,if_neg hx]) (fun x hx=>by
     have ex:x=g.ρ K:=by simpa using hx
     have hne:x≠new:=fun e0=>by rw[<-e0,ex,hh] at eM;cases eM
     rw[iS,if_neg hne];exact .inl rfl) (fun x hx=>by
     rw[CZ] at hx;rcases List.mem_cons.1 hx with h1|h1
     ·exact .inl h1
     ·exact .inr (.inr h1)) (fun u hu=>.inl (by rw[List.mem_singleton.1 hu])) (ry List.mem_cons_self)
    exact ⟨_,_,by rw[e1,xJ];rfl,r1,r2,r3⟩
   |true=>
    have hm:n+R.length<=m:=Nat.le_of_ble_eq_true xJ;have aiA:(n+R.length)*ie.size<=svs.length:=by rw[hc2];exact Nat.mul_le_mul_right _ hm
    have hz0:Nat.add 0 (Nat.mul n ie.size)=n*ie.size:=Nat.zero_add _;have hl3:(svs.take (n*ie.size)++xs).length=(P++R).length*ie.size:=by rw[List.length_append,o2,hx2,hlen,Nat.add_mul]
    have hsl:(bF svs (n*ie.size) xs).length=svs.length:=by
     show (svs.take (n*ie.size)++xs++svs.drop (Nat.add (n*ie.size) xs.length)).length=_;rw[List.length_append,hl3,List.length_drop,hx2,hlen];have:Nat.add (n*ie.size) (R.length*ie.size)=(n+R.length)*ie.size:=by rw[Nat.add_mul];rfl
     rw[this];omega
    have htk:(bF svs (n*ie.size) xs).take ((P++R).length*ie.size)=svs.take (n*ie.size)++xs:=by
     show (svs.take (n*ie.size)++xs++svs.drop (Nat.add (n*ie.size) xs.length)).take ((P++R).length*ie.size)=_;rw[<-hl3,List.take_left]
    have hneq:g.ρ K≠new:=fun e0=>by rw[e0] at hh;rw[hh] at eM;cases eM
    have hN:dG new [(g.ρ K,some (SO.cells e (bF svs (n*ie.size) xs)))]=false:=wo fun u hu=>by rw[List.mem_singleton.1 hu];exact hneq
    have hφe:(fun k=>if k=K then [g.ρ K] else φ k)=φ:=by
     funext k;by_cases hk:k=K
     ·rw[if_pos hk,hk,hφ]
     ·rw[if_neg hk]
    refine ⟨.sl (g.ρ K) 0 (Nat.add n R.length) (.k m),[(g.ρ K,some (.cells e (bF svs (n*ie.size) xs)))],?_,fun h' hu'=> ?_,?_,fun u hu=>.inr (by rw[List.mem_singleton.1 hu];simp)⟩
    ·rw[e1,xJ,show Nat.ble (Nat.add 0 (Nat.mul (Nat.add n R.length) ie.size)) svs.length=true from Nat.ble_eq_true_of_le (by rw[show Nat.add 0 (Nat.mul (Nat.add n R.length) ie.size)=(n+R.length)*ie.size from Nat.zero_add _];exact aiA),hz0]
    ·rcases hu' with ⟨w1,w2,w3,w4⟩|⟨hc,_⟩
     rotate_left
     ·cases hc
     rw[nh hN,wR hN,<-hφe];refine r.chg (K:=K) (b':=.rows z' e ie.size (P++R)) (fo:= [g.ρ K]) (fp:= [g.ρ K]) hfo (fun i hi=>.inl hi) (fun x h1 _=>by rw[w1,iS,if_neg (fun e0=>h1 (by simp[e0]))]) w2 (fun x hx=> ?_) (fun x hx=> ?_) ?_ (.inl rfl)
     ·rw[w1,iS,if_neg (by omega)]
      exact r.bd x (by omega)
     ·have:=w4 x hx;rw[CZ] at this;rcases List.mem_cons.1 this with h1|h1
      ·exact .inr (.inl (by simp[h1]))
      ·exact .inl h1
     ·refine .rows hb' (by rw[w1,iS,if_pos rfl]) (fun _=>hRne) (fun x hx=>(List.mem_append.1 hx).elim (o3 x) (hu x)) (by rw[hκ,hlen];exact ⟨hm,by rw[hsl];exact hc2⟩) ?_
      rw[htk,List.flatten_append];exact o1.append hx
    ·rw[nh hN,hlen];exact aaA hb' hκ
theorem Bh {c:Call} {a b:Operand} {t1 t2:TypeId} {K n:Nat} {p:TypeId×TI} {Q P R:List (List AV)} {z z':Bool} {i2:TI} {y:AV} (mw:c.callee= .builtin .append) (jT:c.args.toList= [a,b]) (wg:c.argTypes.toList= [t1,t2]) (hp':iI E t1=some p) (hok:dP p.2=true) (hi2:E.ty.get t2=some i2) (fM:oo i2.desc=true)
  (ha:∀{F:Hf} {g:Gb} {φ:Nat->List Nat} {tm:Tf} {h:Hs},Rel B F g φ s tm h->∃v,aM tm a=some v/\VA F g v (.ms K p.2.size 0 n)) (hb:aL s.ts b=y) (uh:rO s p.2.size y R) (hP:Q.take n=P) (hn:n<=Q.length) (hn6:n<=1000000) (hR:R.length<=1000000) (hz':z'=true->z=true/\n=Q.length) (hbx:lk K s.bs=some (.rows z p.1 p.2.size Q)) (hpk:B.pk K=false):
  aP E B (.call c) s ((s.cZ K).set K (.rows z' p.1 p.2.size (P++R))) (.ms K p.2.size 0 (P++R).length) (some (K,false)):=aP.mk fun {F g φ tm h new} r h1 h2=>by
 obtain ⟨i,hi,he,hie⟩:=jy hp';obtain ⟨v,v1,v2⟩:=ha r;obtain ⟨w,w1,w2⟩:=r.val hb uh.1;obtain ⟨xs,x1,x2,x3⟩:=uh.2 r w2;obtain ⟨v',us,u1,r2,u2,u3⟩:=Sw (Ab r K) h1 h2 (Fj s K) hpk hi he hie hok v2 x1 x2 x3 hP hn hn6 hR hz' (Xb hbx);refine ⟨v',us,?_,u2,r2,fun u hu=>(u3 u hu).elim .inl fun hc=>.inr ⟨K,_,rfl,hbx,hc⟩,fun k b' hb'=> ?_,fun k hk=>pK (hk.elim (fun ⟨b,hb⟩=>.inl ⟨b.cZ K,by rw[show (s.cZ K).bs=s.bs.map fun p=>(p.1,p.2.cZ K) from rfl,gT,hb];rfl⟩) fun ⟨l,hl⟩=>.inr (by cases hl;rfl))⟩
 ·show fG E tm h.hp.get new c=_;unfold fG;rw[mw];show aj (bT tm c.args.toList) (fun aa=>fX E h.hp.get new .append aa c.argTypes.toList)=_
  rw[jT,wg];have e1:bT tm [a,b]=some [v,w]:=by
   show aG (aM tm a) (aG (aM tm b) (some []) fun v l=>some (v::l)) (fun v l=>some (v::l))=_
   rw[v1,w1];rfl
  rw[e1];show aj (E.ty.get t2) (fun i=>sel (oo i.desc) (gp E h.hp.get new t1 v w) none)=_
  rw[cY hi2,fM];exact u1
 ·rw[show ((s.cZ K).set K (.rows z' p.1 p.2.size (P++R))).bs=(K,.rows z' p.1 p.2.size (P++R))::(s.cZ K).bs from rfl,aW] at hb';by_cases e:k=K
  ·subst e;exact .inl ⟨_,hbx⟩
  ·rw[if_neg e,show (s.cZ K).bs=s.bs.map fun p=>(p.1,p.2.cZ K) from rfl,gT] at hb'
   obtain ⟨b0,h0,_⟩:=Option.map_eq_some_iff.1 hb';exact .inl ⟨b0,h0⟩
theorem Wu {c:Call} {a b:Operand} {t1 t2:TypeId} {K n:Nat} {p:TypeId×TI} {Q P R:List (List AV)} {z z':Bool} {i2:TI} {y:AV} (mw:c.callee= .builtin .append) (jT:c.args.toList= [a,b]) (wg:c.argTypes.toList= [t1,t2]) (hp':iI E t1=some p) (hok:dP p.2=true) (hi2:E.ty.get t2=some i2) (fM:oo i2.desc=true)
  (ha:aL s.ts a= .ms K p.2.size 0 n) (hb:aL s.ts b=y) (uh:rO s p.2.size y R) (hP:Q.take n=P) (hn:n<=Q.length) (hn6:n<=1000000) (hR:R.length<=1000000) (hz':z'=true->z=true/\n=Q.length) (hbx:lk K s.bs=some (.rows z p.1 p.2.size Q)) (hpk:B.pk K=false):
  aP E B (.call c) s ((s.cZ K).set K (.rows z' p.1 p.2.size (P++R))) (.ms K p.2.size 0 (P++R).length) (some (K,false)):=Bh mw jT wg hp' hok hi2 fM (fun r=>r.val ha (by simp)) hb uh hP hn hn6 hR hz' hbx hpk
theorem QL {c:Call} {a b:Operand} {t1 t2:TypeId} {K:Nat} {p:TypeId×TI} {R:List (List AV)} {z':Bool} {i2:TI} {y:AV} (mw:c.callee= .builtin .append) (jT:c.args.toList= [a,b]) (wg:c.argTypes.toList= [t1,t2]) (hp':iI E t1=some p) (hok:dP p.2=true) (hi2:E.ty.get t2=some i2) (fM:oo i2.desc=true)
  (ha:aL s.ts a= .aU) (hb:aL s.ts b=y) (uh:rO s p.2.size y R) (hR:R.length<=1000000) (hbx:lk K s.bs=some (.rows true p.1 p.2.size [])) (hpk:B.pk K=false):
  aP E B (.call c) s ((s.cZ K).set K (.rows z' p.1 p.2.size ([]++R))) (.ms K p.2.size 0 ([]++R).length) (some (K,false)):=Bh (Q:= []) (n:=0) mw jT wg hp' hok hi2 fM (fun {F g φ tm h} r=>by
   obtain ⟨v,v1,v2⟩:=r.val ha (by simp)
   have q:=r.bx K _ hbx;generalize φ K=fp at q;cases v2;cases q with
   |cH hb0=>exact ⟨_,v1,.msN _ hb0⟩
   |rows _ _ hz=>exact absurd rfl (hz rfl)) hb uh rfl (Nat.le_refl _) (Nat.zero_le _) hR (fun _=>⟨rfl,rfl⟩) hbx hpk
end
section
variable {F F':Hf} {g g':Gb} {B:Bs} {φ:Nat->List Nat} {s s' s1:LS} {tm:Tf} {h:Hs} {hp:Hf} {E:Env} {nt:Nat} {all l:List Oper}
theorem pU {t:TypeId} {i:TI} {id off:Nat} {e:TypeId} {svs ws:List SV} {v:SV} (hi:E.ty.get t=some i) (hw:v.cells=some ws) (hh:hp id=some (.cells e svs)) (hl:(Nat.beq ws.length i.size&&Nat.ble (Nat.add off ws.length) svs.length)=true):unit (ir E hp t v (.ptr id off))=some (.tup [],[(id,some (.cells e (bF svs off ws)))]):=by
 show unit (pb (E.ty.get t) v.cells (jF (hp id)) (fun i xs p=>sel (Nat.beq xs.length i.size&&Nat.ble (Nat.add off xs.length) p.2.length) (some [(id,some (SO.cells p.1 (bF p.2 off xs)))]) none))=_
 rw[hi,hw,hh];show unit (sel (Nat.beq ws.length i.size&&Nat.ble (Nat.add off ws.length) svs.length) (some [(id,some (SO.cells e (bF svs off ws)))]) none)=_;rw[hl];rfl
theorem YE {t:TypeId} {a c:Operand} {i:TI} {K off:Nat} {e:TypeId} {y:AV} {cs xs:List AV} (hi:E.ty.get t=some i) (ha:aL s.ts a= .loc K off) (hc:aL s.ts c=y) (hx:iK y=some xs) (hb:lk K s.bs=some (.flat e cs)) (hl:(Nat.beq xs.length i.size&&Nat.ble (Nat.add off xs.length) cs.length)=true):
  aP E B (.store t a c) s (s.set K (.flat e (cq cs off xs))) (.tup []) (some (K,false)):=aP.wr hb fun {F g φ tm h new} r=>by
 obtain ⟨va,a1,a2⟩:=r.val ha (by simp)
 obtain ⟨vc,c1,c2⟩:=r.val hc (fun e=>by subst e;cases hx)
 obtain ⟨ws,w1,w2⟩:=lP c2 hx;have hq:=r.bx K _ hb;generalize hfp:φ K=fp at hq ⊢;cases hq with
 | @flat _ _ svs hh q=>
  cases a2;refine ⟨.tup [],.cells e (bF svs off ws),?_,.tup .nil,rfl,fun hp' hh'=>.flat hh' (jj q w2 off)⟩
  show two tm a c (fun a v=>unit (ir E h.hp.get t v a))=_
  unfold two;rw[a1,c1];exact pU hi w1 hh (by rw[w2.length,q.length];exact hl)
theorem UG {α:Type} {sz j:Nat} {Q:List (List α)} {R:List α} (hu:∀r∈Q,r.length=sz) (hj:Q[j]? =some R):Q.flatten.drop (j*sz)=R++Q.flatten.drop (j*sz+sz):=by
 have hlt:j<Q.length:=(List.getElem?_eq_some_iff.1 hj).1;have he:Q[j]=R:=(List.getElem?_eq_some_iff.1 hj).2;rw[show j*sz+sz=(j+1)*sz by rw[Nat.add_mul,Nat.one_mul],<-jm hu,<-jm hu,List.drop_eq_getElem_cons hlt,List.flatten_cons,he]
theorem ZD {α:Type} {sz j:Nat} {Q:List (List α)} {R':List α} (hu:∀r∈Q,r.length=sz) (hlt:j<Q.length):(Q.set j R').flatten=Q.flatten.take (j*sz)++R'++Q.flatten.drop (j*sz+sz):=by
 rw[List.set_eq_take_append_cons_drop,if_pos hlt,List.flatten_append,List.flatten_cons,iG hu,jm hu,Nat.add_mul,Nat.one_mul,List.append_assoc]
theorem nE {sz j f:Nat} {Q:List (List AV)} {R xs:List AV} (hu:∀r∈Q,r.length=sz) (hj:Q[j]? =some R) (hf:f+xs.length<=sz):(Q.set j (cq R f xs)).flatten=cq Q.flatten (j*sz+f) xs:=by
 have hlt:j<Q.length:=(List.getElem?_eq_some_iff.1 hj).1;have hR:R.length=sz:=hu R (List.mem_of_getElem? hj);rw[ZD hu hlt];unfold cq;have e1:Q.flatten.take (j*sz+f)=Q.flatten.take (j*sz)++R.take f:=by
  rw[List.take_add,UG hu hj,List.take_append_of_le_length (by omega)]
 have e2:Q.flatten.drop (Nat.add (j*sz+f) xs.length)=R.drop (Nat.add f xs.length)++Q.flatten.drop (j*sz+sz):=by
  rw[show Nat.add (j*sz+f) xs.length=j*sz+(f+xs.length) from Nat.add_assoc _ _ _,<-List.drop_drop,UG hu hj,List.drop_append_of_le_length (by omega)]
  rfl
 rw[e1,e2];simp[List.append_assoc]
theorem np {vs ws:List SV} {off N:Nat} (h1:off+ws.length<=N) (h2:N<=vs.length):(bF vs off ws).take N=bF (vs.take N) off ws:=by
 show (vs.take off++ws++vs.drop (off+ws.length)).take N=(vs.take N).take off++ws++(vs.take N).drop (off+ws.length);have hl:(vs.take off++ws).length=off+ws.length:=by rw[List.length_append,List.length_take,Nat.min_eq_left (by omega)]
 rw[List.take_append,List.take_of_length_le (by omega),hl,List.drop_take,List.take_take,Nat.min_eq_left (by omega)]
theorem nq {vs ws:List SV} {off:Nat} (h1:off+ws.length<=vs.length):(bF vs off ws).length=vs.length:=by
 show (vs.take off++ws++vs.drop (off+ws.length)).length=_;rw[List.length_append,List.length_append,List.length_take,List.length_drop,Nat.min_eq_left (by omega)]
 omega
theorem mQ {R xs:List AV} {f:Nat} (h1:f+xs.length<=R.length):(cq R f xs).length=R.length:=by
 unfold cq;rw[List.length_append,List.length_append,List.length_take,List.length_drop,Nat.min_eq_left (by omega),show Nat.add f xs.length=f+xs.length from rfl]
 omega
theorem NU {t:TypeId} {a c:Operand} {i:TI} {K sz j f:Nat} {z:Bool} {e:TypeId} {y:AV} {Q:List (List AV)} {R xs:List AV} (hi:E.ty.get t=some i) (ha:aL s.ts a= .el K sz j f) (hc:aL s.ts c=y) (hx:iK y=some xs) (hkx:(cQ xs).isEmpty=true) (hb:lk K s.bs=some (.rows z e sz Q)) (hj:Q[j]? =some R) (hl:(Nat.beq xs.length i.size&&Nat.ble (Nat.add f xs.length) sz)=true):
  aP E B (.store t a c) s (s.set K (.rows z e sz (Q.set j (cq R f xs)))) (.tup []) (some (K,false)):=aP.wr hb fun {F g φ tm h new} r=>by
 rw[Bool.and_eq_true] at hl;have hs:xs.length=i.size:=(beq_iff _ _).1 hl.1;have hf:f+xs.length<=sz:=Nat.le_of_ble_eq_true hl.2;obtain ⟨va,a1,a2⟩:=r.val ha (by simp)
 obtain ⟨vc,c1,c2⟩:=r.val hc (fun e=>by subst e;cases hx)
 obtain ⟨ws,w1,w2⟩:=lP c2 hx;have hq:=r.bx K _ hb;generalize hfp:φ K=fp at hq ⊢;have hlt:j<Q.length:=(List.getElem?_eq_some_iff.1 hj).1;cases hq with
 |cH=>cases hlt
 | @rows _ _ _ _ svs hb' hh hz hu dW q=>
  cases a2;have hlen:=eA dW;have hjs:j*sz+sz<=Q.length*sz:=by
   have:(j+1)*sz<=Q.length*sz:=Nat.mul_le_mul_right _ (by omega)
   rw[Nat.add_mul,Nat.one_mul] at this;exact this
  have hR:R.length=sz:=hu R (List.mem_of_getElem? hj);have hwl:=w2.length;refine ⟨.tup [],.cells e (bF svs (j*sz+f) ws),?_,.tup .nil,rfl,fun hp' hh'=>.rows hb' hh' (fun hz0=> ?_) (fun r hr=> ?_) ?_ ?_⟩
  ·show two tm a c (fun a v=>unit (ir E h.hp.get t v a))=_
   unfold two;rw[a1,c1];refine pU hi w1 hh ?_;rw[hwl,Bool.and_eq_true];exact ⟨hl.1,Nat.ble_eq_true_of_le (show j*sz+f+xs.length<=svs.length by omega)⟩
  ·intro hc;have:=congrArg List.length hc;rw[List.length_set] at this;rw[show Q.length=0 from this] at hlt;cases hlt
  ·rcases List.mem_or_eq_of_mem_set hr with hr|rfl
   ·exact hu r hr
   ·rw[mQ (by omega)];exact hR
  ·rw[List.length_set,nq (by omega)];exact dW
  ·rw[List.length_set,nE hu hj hf,np (by omega) hlen]
   exact jj q (w2.fH hkx) _
theorem Pm {sz f:Nat}:∀{Q:List (List AV)} {j:Nat} {R:List AV} {x:AV},(∀r∈Q,r.length=sz)->Q[j]? =some R->R[f]? =some x->Q.flatten[j*sz+f]? =some x
 | [],j,R,x,_,h,_=>by cases h
 |r::Q,0,R,x,hu,h,hx=>by
  have e:r=R:=by simpa using h
  subst e;rw[Nat.zero_mul,Nat.zero_add,List.flatten_cons,List.getElem?_append_left (List.getElem?_eq_some_iff.1 hx).1];exact hx
 |r::Q,j+1,R,x,hu,h,hx=>by
  have h:Q[j]? =some R:=h;have hr:r.length=sz:=hu r (by simp)
  rw[List.flatten_cons,List.getElem?_append_right (by rw[hr,Nat.add_mul];omega),hr]
  have:=Pm (fun r hr=>hu r (by simp[hr])) h hx
  rw[show (j+1)*sz+f-sz=j*sz+f from by rw[Nat.add_mul];omega]
  exact this
theorem FJ {t:TypeId} {a c:Operand} {i:TI} {K sz j f:Nat} {e:TypeId} {y x0:AV} {Q:List (List AV)} {x:AV} (hi:E.ty.get t=some i) (ha:aL s.ts a= .el K sz j f) (hc:aL s.ts c=y) (hx:iK y=some [x]) (hb:lk K s.bs=some (.hole e sz Q (j*sz+f) x0)) (hun:Q.flatten[j*sz+f]? =some .undef) (hl:Nat.beq 1 i.size=true):
  aP E B (.store t a c) s (s.set K (.hole e sz Q (j*sz+f) x)) (.tup []) (some (K,false)):=aP.wr hb fun {F g φ tm h new} r=>by
 obtain ⟨va,a1,a2⟩:=r.val ha (by simp)
 obtain ⟨vc,c1,c2⟩:=r.val hc (fun e=>by subst e;cases hx)
 obtain ⟨ws,w1,w2⟩:=lP c2 hx;have hq:=r.bx K _ hb;generalize hfp:φ K=fp at hq ⊢;cases hq with
 | @hole _ _ _ _ _ svs v hb' hh hu dW q hi0 hv hx0=>
  cases a2;have hlen:=eA dW;cases w2 with|cons hw1 hw2=>
  rename_i w ws';cases hw2;have hlt:j*sz+f<svs.length:=by omega
  refine ⟨.tup [],.cells e (bF svs (j*sz+f) [w]),?_,.tup .nil,rfl,fun hp' hh'=>.hole (v:=w) hb' hh' hu ?_ ?_ hi0 ?_ hw1⟩
  ·show two tm a c (fun a v=>unit (ir E h.hp.get t v a))=_
   unfold two;rw[a1,c1];refine pU hi w1 hh ?_;rw[Bool.and_eq_true];exact ⟨hl,Nat.ble_eq_true_of_le (show j*sz+f+1<=svs.length by omega)⟩
  ·rw[nq (by simp;omega)];exact dW
  ·rw[np (by simp;omega) hlen]
   have:=jj q (VAs.one (F:=F) (g:=.no) (.undef w)) (j*sz+f);have e0:cq Q.flatten (j*sz+f) [.undef]=Q.flatten:=by
    obtain ⟨hlt,he⟩:=List.getElem?_eq_some_iff.1 hun;show Q.flatten.take (j*sz+f)++ [.undef]++Q.flatten.drop (j*sz+f+1)=Q.flatten;rw[<-he,List.append_assoc];show Q.flatten.take (j*sz+f)++(Q.flatten[j*sz+f]::Q.flatten.drop (j*sz+f+1))=Q.flatten;rw[<-List.drop_eq_getElem_cons hlt,List.take_append_drop]
   rwa[e0] at this
  ·show (svs.take (j*sz+f)++ [w]++svs.drop (j*sz+f+1))[j*sz+f]? =some w;have hl:(svs.take (j*sz+f)).length=j*sz+f:=by rw[List.length_take];omega
   rw[List.append_assoc,List.getElem?_append_right (by rw[hl];exact Nat.le_refl _),hl,Nat.sub_self]
   rfl
theorem gB.UB {hp:Hf} {e:TypeId} {sz:Nat} {w:SV}:∀{vs:List SV} {Q:List (Option (List (List AV)))} {fs:List (List Nat)} {i:Nat},gB F hp e sz vs Q fs->Q[i]? =some none->gB F hp e sz (vs.set i w) Q fs
 |_,_,_,i,.nil,h=>by cases h
 |_,_,_,0,.cons q t,h=>by
  simp only[List.getElem?_cons_zero,Option.some.injEq] at h;subst h;cases q;exact .cons (.any w) t
 |_,_,_,i+1,.cons q t,h=>.cons q (t.UB (by simpa using h))
theorem Qn {vs:List SV} {i:Nat} {w:SV} (h:i<vs.length):bF vs i [w]=vs.set i w:=by
 rw[List.set_eq_take_append_cons_drop,if_pos h];show vs.take i++ [w]++vs.drop (i+1)=_;simp
theorem NV {t:TypeId} {a c:Operand} {i:TI} {K sz j f:Nat} {e e':TypeId} {y x0:AV} {Q:List (Option (List (List AV)))} {x:AV} (hi:E.ty.get t=some i) (ha:aL s.ts a= .el K 1 j f) (hc:aL s.ts c=y) (hx:iK y=some [x]) (hb:lk K s.bs=some (.own e e' sz Q (some (j*1+f,x0)))) (hl:Nat.beq 1 i.size=true):
  aP E B (.store t a c) s (s.set K (.own e e' sz Q (some (j*1+f,x)))) (.tup []) (some (K,false)):=aP.wrM hb fun {F g φ tm h new} r=>by
 obtain ⟨va,a1,a2⟩:=r.val ha (by simp)
 obtain ⟨vc,c1,c2⟩:=r.val hc (fun e=>by subst e;cases hx)
 obtain ⟨ws,w1,w2⟩:=lP c2 hx;have hq:=r.bx K _ hb;generalize hfp:φ K=fp at hq ⊢;cases hq with
 | @own _ _ _ _ _ svs fs hb' hh dW q nd ho=>
  cases a2;have hlen:=eA dW;cases w2 with|cons hw1 hw2=>
  rename_i w ws';cases hw2;obtain ⟨hQ,v0,hv0,_⟩:=ho _ _ rfl;have hlt:j*1+f<svs.length:=(List.getElem?_eq_some_iff.1 hv0).1;refine ⟨.tup [],.cells e (bF svs (j*1+f) [w]),?_,.tup .nil,by simp,fun hp' hh' hot=> ?_⟩
  ·show two tm a c (fun a v=>unit (ir E h.hp.get t v a))=_
   unfold two;rw[a1,c1];refine pU hi w1 hh ?_;rw[Bool.and_eq_true];exact ⟨hl,Nat.ble_eq_true_of_le (show j*1+f+1<=svs.length by omega)⟩
  ·rw[Qn hlt] at hh';have nd':=List.nodup_cons.1 nd;refine .own hb' hh' (by rw[List.length_set];exact dW) ?_ nd fun i x' e0=> ?_
   ·rw[List.take_set];exact (q.fL (Hle.refl F) fun i hi=>hot i fun e0=>nd'.1 (e0 ▸ hi)).UB hQ
   ·cases e0;exact ⟨hQ,w,by rw[List.getElem?_set,if_pos rfl,if_pos hlt],hw1⟩
theorem Ku {t:TypeId} {a c:Operand} {i:TI} {K sz j f:Nat} {z:Bool} {e:TypeId} {y:AV} {Q:List (List AV)} {R:List AV} {x:AV} (hi:E.ty.get t=some i) (ha:aL s.ts a= .el K sz j f) (hc:aL s.ts c=y) (hx:iK y=some [x]) (hb:lk K s.bs=some (.rows z e sz Q)) (hj:Q[j]? =some R) (hl:(Nat.beq 1 i.size&&Nat.ble (Nat.add f 1) sz)=true):
  aP E B (.store t a c) s (s.set K (.hole e sz (Q.set j (cq R f [.undef])) (j*sz+f) x)) (.tup []) (some (K,false)):=aP.wr hb fun {F g φ tm h new} r=>by
 rw[Bool.and_eq_true] at hl;have hs:1=i.size:=(beq_iff _ _).1 hl.1;have hf:f+1<=sz:=Nat.le_of_ble_eq_true hl.2;obtain ⟨va,a1,a2⟩:=r.val ha (by simp)
 obtain ⟨vc,c1,c2⟩:=r.val hc (fun e=>by subst e;cases hx)
 obtain ⟨ws,w1,w2⟩:=lP c2 hx;have hq:=r.bx K _ hb;generalize hfp:φ K=fp at hq ⊢;have hlt:j<Q.length:=(List.getElem?_eq_some_iff.1 hj).1;cases hq with
 |cH=>cases hlt
 | @rows _ _ _ _ svs hb' hh hz hu dW q=>
  cases a2;have hlen:=eA dW;have hjs:j*sz+sz<=Q.length*sz:=by
   have:(j+1)*sz<=Q.length*sz:=Nat.mul_le_mul_right _ (by omega)
   rw[Nat.add_mul,Nat.one_mul] at this;exact this
  have hR:R.length=sz:=hu R (List.mem_of_getElem? hj);cases w2 with|cons hw1 hw2=>
  rename_i w ws';cases hw2;refine ⟨.tup [],.cells e (bF svs (j*sz+f) [w]),?_,.tup .nil,rfl,fun hp' hh'=>.hole (v:=w) hb' hh' (fun r hr=> ?_) ?_ ?_ ?_ ?_ hw1⟩
  ·show two tm a c (fun a v=>unit (ir E h.hp.get t v a))=_
   unfold two;rw[a1,c1];refine pU hi w1 hh ?_;rw[Bool.and_eq_true];exact ⟨hl.1,Nat.ble_eq_true_of_le (show j*sz+f+1<=svs.length by omega)⟩
  ·rcases List.mem_or_eq_of_mem_set hr with hr|rfl
   ·exact hu r hr
   ·rw[mQ (by simp;omega)];exact hR
  ·rw[List.length_set,nq (by simp;omega)];exact dW
  ·rw[List.length_set,nE hu hj (by simpa using hf),np (by simp;omega) hlen]
   exact jj q (.one (.undef w)) _
  ·rw[List.length_set];omega
  ·show (svs.take (j*sz+f)++ [w]++svs.drop (j*sz+f+1))[j*sz+f]? =some w;rw[List.append_assoc,List.getElem?_append_right (by rw[List.length_take];omega),List.length_take,Nat.min_eq_left (by omega),Nat.sub_self]
   rfl
theorem aeB {c:Call} {a b:Operand} {t1 t2:TypeId} {K lo n m:Nat} {p:TypeId×TI} {z:Bool} {e:TypeId} {Q R Q':List (List AV)} {y:AV} (mw:c.callee= .builtin .copy) (jT:c.args.toList= [a,b]) (wg:c.argTypes.toList= [t1,t2]) (hp':iI E t1=some p) (hok:dP p.2=true)
  (ha:aL s.ts a= .ms K p.2.size lo n) (hb:aL s.ts b=y) (uh:rO s p.2.size y R) (hn:lo+n<=Q.length) (hm:m=min R.length n) (hQ':Q'=Q.take lo++R.take m++Q.drop (lo+m)) (hbx:lk K s.bs=some (.rows z e p.2.size Q)) (hne:Q≠ []):
  aP E B (.call c) s (s.set K (.rows z e p.2.size Q')) (.int .i64 (m:Int)) (some (K,false)):=aP.wrO hbx fun {F g φ tm h new} r=>by
 obtain ⟨i,hi,he,hie⟩:=jy hp';obtain ⟨v,v1,v2⟩:=r.val ha (by simp)
 obtain ⟨w,w1,w2⟩:=r.val hb uh.1;obtain ⟨xs,x1,x2,x3⟩:=uh.2 r w2;have hq:=r.bx K _ hbx;generalize hfp:φ K=fp at hq ⊢;cases hq with
 |cH=>exact absurd rfl hne
 | @rows _ _ _ _ svs hb' hh hz hu dW q=>
  have hv:v= .sl (g.ρ K) (lo*p.2.size) n (j3 (g.κ K) lo)\/(v= .sle/\n=0):=by
   cases v2 with
   |msN s hb0=>rw[hb'] at hb0;cases hb0
   |msE=>exact .inr ⟨rfl,rfl⟩
   |ms=>exact .inl rfl
  rcases hv with hv|⟨hv,hn0⟩
  rotate_left
  ·subst hv;subst hn0;have hm0:m=0:=by omega
   subst hm0;refine .inr ⟨.int .i64 (.lit (.ofNat 0)),?_,.int _ _,by rw[hQ',List.take_zero,List.append_nil,Nat.add_zero,List.take_append_drop]⟩
   show fG E tm h.hp.get new c=_;unfold fG;rw[mw];show aj (bT tm c.args.toList) (fun aa=>fX E h.hp.get new .copy aa c.argTypes.toList)=_
   rw[jT,wg];have e1:bT tm [a,b]=some [.sle,w]:=by
    show aG (aM tm a) (aG (aM tm b) (some []) fun v l=>some (v::l)) (fun v l=>some (v::l))=_
    rw[v1,w1];rfl
   rw[e1];show jV E h.hp.get t1 .sle w=_;unfold jV;rw[cY hi,cY he];unfold Gu;rw[cY hie,hok];show aG (some 0) (iu h.hp.get p.2.size w) (fun nd q=>n6 .sle h.hp.get p.2.size (sel (Nat.ble q.1 nd) q.1 nd) q.2)=_
   rw[lQ rfl x1];show some (SV.int .i64 (.lit (.ofNat (sel (Nat.ble R.length 0) R.length 0))),[])=_;rw[aC];split
   ·rename_i hle;rw[Nat.le_zero.1 (Nat.le_of_ble_eq_true hle)]
   ·rfl
  subst hv;have hlen:=eA dW;have hmR:m<=R.length:=by omega
  have hmn:m<=n:=by omega
  have hx2:xs.length=R.length*p.2.size:=by rw[x2.length,uy x3]
  have hms:m*p.2.size<=R.length*p.2.size:=Nat.mul_le_mul_right _ hmR;have hxt:(xs.take (m*p.2.size)).length=m*p.2.size:=by rw[List.length_take];omega
  have wm:lo*p.2.size+m*p.2.size<=Q.length*p.2.size:=by rw[<-Nat.add_mul];exact Nat.mul_le_mul_right _ (by omega)
  have hQl:Q'.length=Q.length:=by rw[hQ',List.length_append,List.length_append,List.length_take,List.length_take,List.length_drop];omega
  have hfl:Q'.flatten=cq Q.flatten (lo*p.2.size) (R.take m).flatten:=by
   rw[hQ',List.flatten_append,List.flatten_append,iG hu,jm hu];unfold cq;rw[uy (fun r hr=>x3 r (List.mem_of_mem_take hr)),List.length_take,Nat.min_eq_left hmR,Nat.add_mul]
   rfl
  refine .inl ⟨.int .i64 (.lit (.ofNat m)),.cells e (bF svs (lo*p.2.size) (xs.take (m*p.2.size))),?_,.int _ _,rfl,fun hp' hh'=>.rows hb' hh' (fun hz0 hc=> ?_) (fun r hr=> ?_) ?_ ?_⟩
  ·show fG E tm h.hp.get new c=_;unfold fG;rw[mw];show aj (bT tm c.args.toList) (fun aa=>fX E h.hp.get new .copy aa c.argTypes.toList)=_
   rw[jT,wg];have e1:bT tm [a,b]=some [.sl (g.ρ K) (lo*p.2.size) n (j3 (g.κ K) lo),w]:=by
    show aG (aM tm a) (aG (aM tm b) (some []) fun v l=>some (v::l)) (fun v l=>some (v::l))=_
    rw[v1,w1];rfl
   rw[e1];show jV E h.hp.get t1 (.sl (g.ρ K) (lo*p.2.size) n (j3 (g.κ K) lo)) w=_;unfold jV;rw[cY hi,cY he];unfold Gu;rw[cY hie,hok];show aG (some n) (iu h.hp.get p.2.size w) (fun nd q=>n6 (.sl (g.ρ K) (lo*p.2.size) n (j3 (g.κ K) lo)) h.hp.get p.2.size (sel (Nat.ble q.1 nd) q.1 nd) q.2)=_
   rw[lQ rfl x1];show th h.hp.get p.2.size (sel (Nat.ble R.length n) R.length n) xs (g.ρ K) (lo*p.2.size)=_;have em:sel (Nat.ble R.length n) R.length n=m:=by
    rw[aC];split
    ·rename_i hle;have:=Nat.le_of_ble_eq_true hle;omega
    ·rename_i hle;have:¬R.length<=n:=fun hc=>hle (Nat.ble_eq_true_of_le hc)
     omega
   rw[em];unfold th;rw[hh];show sel (Nat.ble (Nat.add (lo*p.2.size) (Nat.mul m p.2.size)) svs.length) (some (SV.int .i64 (.lit (.ofNat m)),[(g.ρ K,some (SO.cells e (bF svs (lo*p.2.size) (xs.take (Nat.mul m p.2.size)))))])) none=_;rw[show Nat.ble (Nat.add (lo*p.2.size) (Nat.mul m p.2.size)) svs.length=true from Nat.ble_eq_true_of_le (show lo*p.2.size+m*p.2.size<=svs.length by omega)]
   rfl
  ·have:=congrArg List.length hc;rw[hQl] at this;exact hne (List.length_eq_zero_iff.1 this)
  ·rw[hQ'] at hr;rcases List.mem_append.1 hr with hr|hr
   ·rcases List.mem_append.1 hr with hr|hr
    ·exact hu r (List.mem_of_mem_take hr)
    ·exact x3 r (List.mem_of_mem_take hr)
   ·exact hu r (List.mem_of_mem_drop hr)
  ·rw[hQl,nq (by omega)];exact dW
  ·rw[hQl,np (by omega) hlen,hfl]
   refine jj q ?_ _;rw[iG x3];exact x2.take _
end
section
variable {F F':Hf} {g g':Gb} {B:Bs} {φ:Nat->List Nat} {s s' s1:LS} {tm:Tf} {h:Hs} {hp:Hf} {E:Env} {nt:Nat} {all l:List Oper}
def mI (ts:List (Nat×AV)):Option Operand->Option (Option Int)
 |none=>some none
 |some x=>(match aL ts x with| .int _ n=>some (some n)|_=>none)
theorem wT (r:Rel B F g φ s tm h) {o:Option Operand} {b:Option Int} {d n:Nat} (hb:mI s.ts o=some b) (hn:b.getD d=(n:Int)):∃c,dz tm o=some c/\c.getD d=n/\c.isSome=b.isSome/\∀m,c=some m->b=some (m:Int):=by
 cases o with
 |none=>
  cases hb;have h0:(d:Int)=(n:Int):=hn;exact ⟨none,rfl,(show d=n by omega),rfl,fun m hm=>by cases hm⟩
 |some x=>
  have hb:(match aL s.ts x with| .int _ n=>some (some n)|_=>none)=some b:=hb
  split at hb
  ·rename_i k m hv;cases hb;have hm:m=(n:Int):=hn;subst hm;obtain ⟨v,v1,v2⟩:=r.val hv (by simp)
   cases v2;refine ⟨some n,?_,rfl,rfl,fun m hm=>by cases hm;rfl⟩
   show aj (aM tm x) (fun v=>aj (eW v) fun n=>some (some n))=_
   rw[v1];rfl
  ·cases hb
theorem zE {t:TypeId} {a:Operand} {lo hi mx:Option Operand} {v:SV} {c1 c2 c3:Option Nat} {e:TypeId} {i ie:TI} (hi':E.ty.get t=some i) (hd:ja i.desc=some e) (he:E.ty.get e=some ie) (hv:aM tm a=some v) (h1:dz tm lo=some c1) (h2:dz tm hi=some c2) (h3:dz tm mx=some c3) (hm:F5 c2 c3=true) {new:Nat}:
  opA E (.slice t a lo hi mx) tm hp new=same (AY v E e c1 c2 c3):=by
 show one tm a (fun v=>pb (dz tm lo) (dz tm hi) (dz tm mx) fun l u m=>same (qb E t v l u m))=_
 unfold one;rw[hv,h1,h2,h3];show same (qb E t v c1 c2 c3)=_;unfold qb;rw[hi'];show same (sel (F5 c2 c3) (Uy i.desc E v c1 c2 c3) none)=_;rw[hm,jH hd];show same (aj (E.ty.get e) fun _=>AY v E e c1 c2 c3)=_
 rw[he];rfl
theorem ZZ {id off n l u s':Nat} {c:Cp} {e e':TypeId} {svs:List SV} {rows:List (List AV)} (hF:cL (F id) off (rows.length*s')=some (e',svs)) (hu:∀r∈rows,r.length=s') (hl:off+rows.length*s'<=svs.length) (hq:VAs F .no ((svs.drop off).take (rows.length*s')) rows.flatten) (h1:l<=u) (h2:u<=rows.length) (hc:oD e u c):VA F g (mB id off l u s' c) (.slx e s' ((rows.drop l).take (u-l)))/\(l=0->VA F g (mB id off l u s' c) (.slice e s' ((rows.drop l).take (u-l)))):=by
 have hlen:((rows.drop l).take (u-l)).length=u-l:=by rw[List.length_take,List.length_drop];omega
 have hus:∀r∈(rows.drop l).take (u-l),r.length=s':=fun r hr=>hu r (List.mem_of_mem_drop (List.mem_of_mem_take hr))
 have hle:l*s'+(u-l)*s'<=rows.length*s':=by rw[<-Nat.add_mul];exact Nat.mul_le_mul_right _ (by omega)
 have hq2:VAs F .no ((svs.drop (off+l*s')).take ((u-l)*s')) ((rows.drop l).take (u-l)).flatten:=by
  have:=(hq.drop (l*s')).take ((u-l)*s');rwa[List.drop_take,List.take_take,List.drop_drop,Nat.min_eq_left (by omega),<-JU hu] at this
 unfold mB;rw[aC,aC];split
 ·rename_i e0;obtain rfl:=(beq_iff _ _).1 e0;have k1:=kC hF (Nat.le_refl _) (Nat.add_le_add_left (Nat.mul_le_mul_right _ h2) _);have k2:off+u*s'<=svs.length:=by rw[Nat.zero_mul] at hle;rw[Nat.sub_zero] at hle;omega
  have k3:u=((rows.drop 0).take (u-0)).length:=by rw[hlen,Nat.sub_zero]
  exact ⟨.slx k1 hc k3 hus k2 (by simpa using hq2),fun _=>.slice k1 hc k3 hus k2 (by simpa using hq2)⟩
 ·rename_i e0;have e0:l≠0:=fun h=>e0 ((beq_iff _ _).2 h)
  refine ⟨?_,fun h=>absurd h e0⟩
  split
  ·rename_i hlt;have hlt:l<u:=Nat.le_of_ble_eq_true hlt;refine .slx (kC hF (show off<=off+l*s' from Nat.le_add_right _ _) (show off+l*s'+(u-l)*s'<=off+rows.length*s' by omega)) ?_ (by rw[hlen];rfl) hus (show off+l*s'+(u-l)*s'<=svs.length by omega) hq2
   cases c with
   |k m=>exact (show u-l<=m-l from Nat.sub_le_sub_right hc l)
   |u e'=>exact hc
  ·rename_i hlt;have hul:u=l:=by
    have:¬l<u:=fun hc=>hlt (Nat.ble_eq_true_of_le hc)
    omega
   subst hul;rw[Nat.sub_self,List.take_zero];exact .rV e s'
def Ai (y:AV) (lo:Option Operand) (e s:Nat) (R:List (List AV)):AV:=
 match lo with
 |some _=>.slx e s R
 |none=>(match y with
  | .slx _ _ _=>.slx e s R
  |_=>.slice e s R)
theorem Xl {y:AV} {lo:Option Operand} {e s:Nat}:VA F g .aU (Ai y lo e s []):=by
 unfold Ai;split
 ·exact .mf _ _
 ·split
  ·exact .mf _ _
  ·exact .iv _ _
theorem Z1 {y:AV} {lo:Option Operand} {e s:Nat} {q:TypeId×Nat×List (List AV)} (hv:VA F g .sle y) (hy:kX y=some q):VA F g .sle (Ai y lo e s []):=by
 cases hv with
 |rV=>cases lo<;>exact .rV _ _
 |_=>cases hy
theorem aeT {y:AV} {v:SV} {lo:Option Operand} {e s l:Nat} {R:List (List AV)} (h1:VA F g v (.slx e s R)) (h2:l=0->VA F g v (.slice e s R)) (hl:lo=none->l=0):VA F g v (Ai y lo e s R):=by
 unfold Ai;split
 ·exact h1
 ·split
  ·exact h1
  ·exact h2 (hl rfl)
theorem ok_slice {t:TypeId} {a:Operand} {lo hi:Option Operand} {p:TypeId×TI} {y:AV} {rows R:List (List AV)} {b1 b2:Option Int} {l u:Nat} (hp:iI E t=some p) (ha:aL s.ts a=y) (hy:kX y=some (p.1,p.2.size,rows)) (h1:mI s.ts lo=some b1) (h2:mI s.ts hi=some b2)
  (hb1:b1.getD 0=(l:Int)) (hb2:b2.getD (rows.length:Nat)=(u:Int)) (hlu:l<=u) (hum:u<=rows.length) (hR:(rows.drop l).take (u-l)=R):aP E B (.slice t a lo hi none) s s (Ai y lo p.1 p.2.size R) none:=aP.pure fun {F g φ tm h new} r=>by
 subst hR;obtain ⟨i,hi',he,hie⟩:=jy hp;obtain ⟨v,v1,v2⟩:=r.val ha (fun e=>by subst e;cases hy)
 obtain ⟨c1,d1,d2,d3,d4⟩:=wT (d:=0) r h1 hb1;obtain ⟨c2,f1,f2,f3,f4⟩:=wT (d:=rows.length) r h2 hb2;have z1:l=0->fa c1=true:=fun h=>by
  cases c1 with
  |none=>rfl
  |some x=>exact (beq_iff _ _).2 (by have:x=l:=d2;omega)
 have z2:u=0->fa c2=true:=fun h=>by
  cases c2 with
  |none=>rfl
  |some x=>exact (beq_iff _ _).2 (by have:x=u:=f2;omega)
 have go:=fun v (hv:aM tm a=some v)=>zE (new:=new) (hp:=h.hp.get) (mx:=none) (c3:=none) hi' he hie hv d1 f1 rfl rfl
 rcases o8 v2 hy with ⟨rfl,rfl|rfl⟩|⟨id,off,c,e',svs,rfl,hct,hF,hu,hl,hq⟩
 ·have hu0:u=0:=Nat.le_zero.1 hum;have hl0:l=0:=by omega
  refine ⟨.aU,?_,by simpa using Xl⟩
  rw[go _ v1];show same (sel (fa c1&&(fa c2&&true)) (some SV.aU) none)=_;rw[z1 hl0,z2 hu0];rfl
 ·have hu0:u=0:=Nat.le_zero.1 hum;have hl0:l=0:=by omega
  refine ⟨.sle,?_,by simpa using Z1 v2 hy⟩
  rw[go _ v1];show same (sel (fa c1&&(fa c2&&true)) (some SV.sle) none)=_;rw[z1 hl0,z2 hu0];rfl
 ·have hcu:oD p.1 u c:=by
   cases c with
   |k m=>exact Nat.le_trans hum hct
   |u e'=>exact hct
  have hcut:=ZZ (g:=g) (n:=rows.length) hF hu hl hq hlu hum hcu;refine ⟨mB id off l u p.2.size c,?_,aeT hcut.1 hcut.2 fun h0=> ?_⟩
  rotate_left
  ·subst h0;cases h1;have:(0:Int)=(l:Int):=hb1;omega
  rw[go _ v1];show same (iZ E p.1 id off rows.length c c1 c2 none)=_;unfold iZ;rw[cY hie,d2,f2];have e1:(nN c p.1&&(Nat.ble l u&&(Nat.ble u (reach c rows.length)&&F4 none u (reach c rows.length))))=true:=by
   have t1:nN c p.1=true:=by
    cases c with
    |k m=>rfl
    |u e'=>exact (beq_iff _ _).2 hct
   have t2:Nat.ble u (reach c rows.length)=true:=Nat.ble_eq_true_of_le (by
    cases c with
    |k m=>exact Nat.le_trans hum hct
    |u e'=>exact hum)
   rw[t1,(bk _ _).2 hlu,t2];rfl
  rw[e1];rfl
def Gt:AV->Option (TypeId×Nat×List (List AV))
 | .slice e s rows=>some (e,s,rows)
 | .sln e s rows=>some (e,s,rows)
 | .slf e s rows=>some (e,s,rows)
 |_=>none
theorem Od {v:SV} {x:AV} {e:TypeId} {sz:Nat} {rows:List (List AV)} (q:VA F g v x) (hx:Gt x=some (e,sz,rows)):(rows= []/\v= .aU)\/∃id off c e' svs,v= .sl id off rows.length c/\oD e rows.length c/\cL (F id) off (rows.length*sz)=some (e',svs)/\(∀r∈rows,r.length=sz)/\off+rows.length*sz<=svs.length/\VAs F .no ((svs.drop off).take (rows.length*sz)) rows.flatten:=by
 have hd:kX x=some (e,sz,rows):=by unfold Gt at hx;split at hx<;>first|exact hx|cases hx
 rcases o8 q hd with ⟨h1,h2|h2⟩|h
 ·exact .inl ⟨h1,h2⟩
 ·subst h2;cases q<;>cases hx
 ·exact .inr h
theorem Wp {t:TypeId} {a:Operand} {hi mx:Operand} {p:TypeId×TI} {y:AV} {rows R:List (List AV)} {b2 b3:Int} {u:Nat} (hp:iI E t=some p) (ha:aL s.ts a=y) (hy:Gt y=some (p.1,p.2.size,rows)) (h2:mI s.ts (some hi)=some (some b2)) (h3:mI s.ts (some mx)=some (some b3))
  (hb2:b2=(u:Int)) (hb3:b3=(u:Int)) (hum:u<=rows.length) (hR:rows.take u=R):aP E B (.slice t a none (some hi) (some mx)) s s (.slf p.1 p.2.size R) none:=aP.pure fun {F g φ tm h new} r=>by
 subst hR;subst hb2;subst hb3;obtain ⟨i,hi',he,hie⟩:=jy hp;obtain ⟨v,v1,v2⟩:=r.val ha (fun e=>by subst e;cases hy)
 have bnd:∀{o:Operand},mI s.ts (some o)=some (some (u:Int))->dz tm (some o)=some (some u):=fun {o} ho=>by
  obtain ⟨c,c1,c2,c3,c4⟩:=wT (d:=0) (n:=u) r ho rfl;cases c with
  |none=>cases c3
  |some m=>rw[c1];rw[show m=u from c2]
 have go:=fun v (hv:aM tm a=some v)=>zE (new:=new) (hp:=h.hp.get) (lo:=none) (c1:=none) hi' he hie hv rfl (bnd h2) (bnd h3) rfl
 have hlen:(rows.take u).length=u:=by rw[List.length_take];omega
 rcases Od v2 hy with ⟨rfl,rfl⟩|⟨id,off,c,e',svs,rfl,hct,hF,hu,hl,hq⟩
 ·have hu0:u=0:=Nat.le_zero.1 hum;subst hu0;refine ⟨.aU,?_,by simpa using VA.tM p.1 p.2.size⟩
  rw[go _ v1];rfl
 ·have hle:u*p.2.size<=rows.length*p.2.size:=Nat.mul_le_mul_right _ hum;refine ⟨.sl id off u (.k u),?_,.slf (kC hF (Nat.le_refl _) (Nat.add_le_add_left hle _)) hlen.symm (fun r hr=>hu r (List.mem_of_mem_take hr)) (by omega) ?_⟩
  ·rw[go _ v1];show same (iZ E p.1 id off rows.length c none (some u) (some u))=_;unfold iZ;rw[cY hie];have e1:(nN c p.1&&(Nat.ble 0 u&&(Nat.ble u (reach c rows.length)&&(Nat.ble u u&&Nat.ble u (reach c rows.length)))))=true:=by
    have t1:nN c p.1=true:=by
     cases c with
     |k m=>rfl
     |u e'=>exact (beq_iff _ _).2 hct
    have t2:Nat.ble u (reach c rows.length)=true:=Nat.ble_eq_true_of_le (by
     cases c with
     |k m=>exact Nat.le_trans hum hct
     |u e'=>exact hum)
    rw[t1,t2,(bk _ _).2 (Nat.zero_le u),(bk _ _).2 (Nat.le_refl u)];rfl
   show same (sel (nN c p.1&&(Nat.ble 0 u&&(Nat.ble u (reach c rows.length)&&(Nat.ble u u&&Nat.ble u (reach c rows.length))))) _ none)=_;rw[e1];rfl
  ·have:=hq.take (u*p.2.size);rw[List.take_take,Nat.min_eq_left hle] at this;rwa[iG hu]
theorem Yc (c:Cp) (a b:Nat):j3 (j3 c a) b=j3 c (a+b):=by
 cases c with
 |k m=>exact congrArg Cp.k (Nat.sub_sub m a b)
 |u e=>rfl
theorem NW {t:TypeId} {a:Operand} {lo hi:Option Operand} {p:TypeId×TI} {K lo0 n:Nat} {z:Bool} {Q:List (List AV)} {b1 b2:Option Int} {l u:Nat} (hp:iI E t=some p) (ha:aL s.ts a= .ms K p.2.size lo0 n) (hb:lk K s.bs=some (.rows z p.1 p.2.size Q)) (h1:mI s.ts lo=some b1) (h2:mI s.ts hi=some b2)
  (hb1:b1.getD 0=(l:Int)) (hb2:b2.getD (n:Nat)=(u:Int)) (hlu:l<=u) (hum:u<=n) (hn:lo0+n<=Q.length):aP E B (.slice t a lo hi none) s s (.ms K p.2.size (lo0+l) (u-l)) none:=aP.pure fun {F g φ tm h new} r=>by
 obtain ⟨i,hi',he,hie⟩:=jy hp;obtain ⟨v,v1,v2⟩:=r.val ha (by simp)
 obtain ⟨c1,d1,d2,d3,d4⟩:=wT (d:=0) r h1 hb1;obtain ⟨c2,f1,f2,f3,f4⟩:=wT (d:=n) r h2 hb2;have z1:l=0->fa c1=true:=fun h=>by
  cases c1 with
  |none=>rfl
  |some x=>exact (beq_iff _ _).2 (by have:x=l:=d2;omega)
 have z2:u=0->fa c2=true:=fun h=>by
  cases c2 with
  |none=>rfl
  |some x=>exact (beq_iff _ _).2 (by have:x=u:=f2;omega)
 have go:=fun v (hv:aM tm a=some v)=>zE (new:=new) (hp:=h.hp.get) (mx:=none) (c3:=none) hi' he hie hv d1 f1 rfl rfl
 cases v2 with
 |msN _ hb0=>
  have hu0:u=0:=Nat.le_zero.1 hum;have hl0:l=0:=by omega
  subst hu0;subst hl0;refine ⟨.aU,?_,.msN _ hb0⟩;rw[go _ v1];show same (sel (fa c1&&(fa c2&&true)) (some SV.aU) none)=_;rw[z1 rfl,z2 rfl];rfl
 |msE _ _ h0=>
  have hu0:u=0:=Nat.le_zero.1 hum;have hl0:l=0:=by omega
  subst hu0;subst hl0;refine ⟨.sle,?_,.msE _ _ h0⟩;rw[go _ v1];show same (sel (fa c1&&(fa c2&&true)) (some SV.sle) none)=_;rw[z1 rfl,z2 rfl];rfl
 |ms _ _ _ hb0=>
  have q:=r.bx K _ hb;generalize φ K=fp at q;cases q with
  |cH hb1=>rw[hb0] at hb1;cases hb1
  | @rows _ _ _ _ svs hb' hh hz hu hc q=>
  have dW:oD p.1 n (j3 (g.κ K) lo0):=by
   cases hκ:g.κ K with
   |k m=>rw[hκ] at hc;have:=hc.1;exact (show n<=m-lo0 by omega)
   |u e'=>rw[hκ] at hc;exact hc.1
  refine ⟨mB (g.ρ K) (lo0*p.2.size) l u p.2.size (j3 (g.κ K) lo0),?_,?_⟩
  ·rw[go _ v1];show same (iZ E p.1 (g.ρ K) (lo0*p.2.size) n (j3 (g.κ K) lo0) c1 c2 none)=_;unfold iZ;rw[cY hie,d2,f2];generalize j3 (g.κ K) lo0=c at dW;have e1:(nN c p.1&&(Nat.ble l u&&(Nat.ble u (reach c n)&&F4 none u (reach c n))))=true:=by
    have t1:nN c p.1=true:=by
     cases c with
     |k m=>rfl
     |u e'=>exact (beq_iff _ _).2 dW
    have t2:Nat.ble u (reach c n)=true:=Nat.ble_eq_true_of_le (by
     cases c with
     |k m=>exact Nat.le_trans hum dW
     |u e'=>exact hum)
    rw[t1,(bk _ _).2 hlu,t2];rfl
   rw[e1];rfl
  ·unfold mB;rw[aC,aC];split
   ·rename_i e0;obtain rfl:=(beq_iff _ _).1 e0;rw[Nat.add_zero,Nat.sub_zero];exact .ms _ lo0 u hb0
   ·rename_i e0;have e0:l≠0:=fun h=>e0 ((beq_iff _ _).2 h)
    split
    ·rw[Yc];rw[show Nat.add (lo0*p.2.size) (Nat.mul l p.2.size)=(lo0+l)*p.2.size from (Nat.add_mul _ _ _).symm];exact .ms _ (lo0+l) (u-l) hb0
    ·rename_i hlt;have hul:u=l:=by
      have:¬l<u:=fun hc=>hlt (Nat.ble_eq_true_of_le hc)
      omega
     subst hul;rw[Nat.sub_self];exact .msE _ _ (by omega)
theorem Yn {P:Program} {t:TypeId} {k:IntKind} {m n:Int} (hn:n≠0):cG P (binOp .rem t (.int k m) (.int k n))=some (.int k (m.tmod n)):=by
 have:binOp .rem t (.int k m) (.int k n)=Sem.pure (.int k (m.tmod n)):=by
  simp[binOp,Op.intDiv,hn,pure]
 rw[this];rfl
theorem Yr {P:Program} {t:TypeId} {k:IntKind} {m n:Int} (hn:n≠0):cG P (binOp .quo t (.int k m) (.int k n))=some (.int k (k.wrap (m.tdiv n))):=by
 have:binOp .quo t (.int k m) (.int k n)=Sem.pure (.int k (k.wrap (m.tdiv n))):=by
  simp[binOp,Op.intDiv,hn,pure]
 rw[this];rfl
def divL (op:BinOp) (k:IntKind) (m n:Int):Option AV:=
 match op with
 | .rem=>some (.int k (m.tmod n))
 | .quo=>some (.int k (k.wrap (m.tdiv n)))
 |_=>none
theorem afY {op:BinOp} {t t2:TypeId} {a b:Operand} {k k':IntKind} {m n:Int} {x:AV} (ha:aL s.ts a= .int k m) (hb:aL s.ts b= .int k' n) (hk:ct k k'=true) (hn:n≠0) (hx:divL op k m n=some x):aP E B (.binOp op t a b t2) s s x none:=aP.bi (f:=fun _ v u=>same (sq E op t a b v u)) (fun _ _ _=>rfl) ha (by simp) hb (by simp) fun {F g φ tm h v w} r hv hw=>by
 have ek:k=k':=by cases k<;>cases k'<;>first|rfl|(cases hk;done)
 subst ek;cases hv;cases hw;cases op<;>first|(cases hx;done)|skip
 ·cases hx;refine ⟨.int k (.lit (k.wrap (m.tdiv n))),?_,.int _ _⟩;show same (fQ (cG E.P (binOp .quo t (.int k m) (.int k n))))=_;rw[Yr hn];rfl
 ·cases hx;refine ⟨.int k (.lit (m.tmod n)),?_,.int _ _⟩;show same (fQ (cG E.P (binOp .rem t (.int k m) (.int k n))))=_;rw[Yn hn];rfl
theorem Z5 {P:Program} {t:TypeId} {a b:ByteArray} (hn:a.size+b.size<=1000000):cG P (binOp .add t (.string a) (.string b))=some (.string (a++b)):=by
 have h1:¬(((a.size+b.size:Nat):Int)>IntKind.i64.max):=by
  have:IntKind.i64.max=9223372036854775807:=by decide
  omega
 have:binOp .add t (.string a) (.string b)=Sem.pure (.string (a++b)):=by
  show Op.stringOp .add a b=_;unfold Op.stringOp;simp only[];rw[if_neg h1];rfl
 rw[this];rfl
theorem afZ {t t2:TypeId} {a b:Operand} {x y:ByteArray} (ha:aL s.ts a= .str x) (hb:aL s.ts b= .str y) (hn:x.size+y.size<=1000000):aP E B (.binOp .add t a b t2) s s (.str (x++y)) none:=aP.bi (f:=fun _ v u=>same (sq E .add t a b v u)) (fun _ _ _=>rfl) ha (by simp) hb (by simp) fun {F g φ tm h v w} r hv hw=>by
 cases hv;cases hw;refine ⟨.str (x++y),?_,.str _⟩;show same (fQ (cG E.P (binOp .add t (.string x) (.string y))))=_;rw[Z5 hn];rfl
theorem N1 {t:TypeId} {a ix:Operand} {i:TI} {b:ByteArray} {k:IntKind} {n:Int} {c:UInt8} (hi:E.ty.get t=some i) (hd:nX i.desc=true) (ha:aL s.ts a= .str b) (hix:aL s.ts ix= .int k n) (hc:ke b.data.toList n=some c):aP E B (.index t a ix) s s (.int .u8 (c.toNat:Int)) none:=aP.bi (f:=fun _ v u=>aj (eW u) fun k=>jM E t k v) (fun _ _ _=>rfl) ha (by simp) hix (by simp) fun {F g φ tm h v w} r hv hw=>by
 obtain ⟨j,hj,hc2⟩:=zn hc;subst hj;cases hv;cases hw;refine ⟨_,?_,.int _ _⟩;show jM E t j (.str b)=_;unfold jM;rw[cY hi];generalize i.desc=d at hd;cases d<;>first|(cases hd;done)|skip
 show aj (b.data.toList[j]?) (fun b=>some (SV.int .u8 (.lit (.ofNat b.toNat)),([]:List Up)))=_
 rw[cY hc2];rfl
end
section
variable {F F':Hf} {g g':Gb} {B:Bs} {φ:Nat->List Nat} {s s' s1:LS} {tm:Tf} {h:Hs} {hp:Hf} {E:Env} {nt:Nat} {all l:List Oper}
theorem aex {it:Operand} {K pos:Nat} {b:ByteArray} (ha:aL s.ts it= .it K) (hb:lk K s.bs=some (.iter b pos)) (hlt:pos<b.size):aP E B (.next it true) s (s.set K (.iter b (pos+(Utf8.decode b pos).2))) (.tup [.bool true,.int .i64 (pos:Int),.int .i32 (Utf8.decode b pos).1]) (some (K,false)):=aP.wr hb fun {F g φ tm h new} r=>by
 obtain ⟨v,v1,v2⟩:=r.val ha (by simp)
 cases v2;have q:=r.bx K _ hb;generalize φ K=fp at q ⊢;cases q with
 |iter hh=>
 refine ⟨.tup [.bool true,kJ pos,.int .i32 (.lit (Utf8.decode b pos).1)],.ia b (pos+(Utf8.decode b pos).2),?_,.tup (.cons (.bool _) (.cons (.int _ _) (.cons (.int _ _) .nil))),rfl,fun hp' hh'=>.iter hh'⟩
 show one tm it (mh h.hp.get true)=_;unfold one;rw[v1];show aj (CU (.ptr (g.ρ K) 0)) (fun id=>aj (rq (h.hp.get id)) fun p=>some (ic id p))=_
 show aj (rq (h.hp.get (g.ρ K))) (fun p=>some (ic (g.ρ K) p))=_
 rw[hh];show some (ic (g.ρ K) (b,pos))=_;unfold ic;rw[show Nat.ble (Nat.succ pos) b.size=true from Nat.ble_eq_true_of_le hlt];rfl
theorem QG {it:Operand} {K pos:Nat} {b:ByteArray} (ha:aL s.ts it= .it K) (hb:lk K s.bs=some (.iter b pos)) (hlt:¬pos<b.size):aP E B (.next it true) s s (.tup [.bool false]) none:=aP.pure fun {F g φ tm h new} r=>by
 obtain ⟨v,v1,v2⟩:=r.val ha (by simp)
 cases v2;have q:=r.bx K _ hb;generalize φ K=fp at q;cases q with
 |iter hh=>
 refine ⟨.tup [.bool false],?_,.tup (.cons (.bool _) .nil)⟩;show one tm it (mh h.hp.get true)=_;unfold one;rw[v1];show aj (rq (h.hp.get (g.ρ K))) (fun p=>some (ic (g.ρ K) p))=_
 rw[hh];show some (ic (g.ρ K) (b,pos))=_;unfold ic;have:Nat.ble (Nat.succ pos) b.size=false:=by
  cases hx:Nat.ble (Nat.succ pos) b.size with
  |false=>rfl
  |true=>exact absurd (Nat.le_of_ble_eq_true hx) hlt
 rw[this]
def Bw:AV->AV->Option Bool
 | .str a,.str b=>some (decide (a=b))
 | .bool a,.bool b=>some (a==b)
 | .int k a,.int k' b=>sel (ct k k') (some (decide (a=b))) none
 |_,_=>none
def KQ:AV->UD->Bool
 | .str _,d=>nX d
 | .bool _,d=>xI d
 | .int k _,d=>Rk k d
 |_,_=>false
def hJ (k:AV):List (AV×AV)->Option (Option (Nat×AV))
 | []=>some none
 |e::es=>
  match Bw k e.1 with
  |some true=>some (some (0,e.2))
  |some false=>(match hJ k es with|some (some p)=>some (some (p.1+1,p.2))|r=>r)
  |none=>none
theorem QY {a b:IntKind} (h:ct a b=true):a=b:=by cases a<;>cases b<;>first|rfl|(cases h;done)
theorem YV {k x:AV} {u v:SV} {b:Bool} (hu:VA F g u k) (hv:VA F g' v x) (hb:Bw k x=some b):sameKey u v=some b:=by
 unfold Bw at hb;split at hb
 ·cases hb;cases hu;cases hv;show some (pT _ _)=_;rw[lX]
 ·cases hb;cases hu;cases hv;rfl
 ·obtain ⟨hk,hb⟩:=ar hb;cases hb;cases hu;cases hv;show sel (ct _ _) (some (uc _ _)) none=_;rw[hk,mY]
 ·cases hb
theorem Pk {k:AV} {u:SV} {d:UD} (hu:VA F g u k) (hd:KQ k d=true):sY u d=true:=by
 cases k<;>first|(cases hd;done)|skip
 ·cases hu;exact hd
 ·cases hu;exact (show (true&&Rk _ d)=true by rw[Bool.true_and];exact hd)
 ·cases hu;exact hd
theorem Ee {k:AV} {u:SV} (hu:VA F g u k):∀{es:List (AV×AV)} {ms:List (SV×SV×Nat)} (j:Nat),VAs F .no (ms.map (·.1)) (es.map (·.1))->VAs F .no (ms.map (·.2.1)) (es.map (·.2))->
  (hJ k es=some none->hX u ms j=some none)/\∀i x,hJ k es=some (some (i,x))->∃v c,hX u ms j=some (some (j+i,v,c))/\VA F .no v x/\es[i]? =some (k,x)/\i<ms.length
 | [],[],j,_,_=>⟨fun _=>rfl,fun i x h=>by cases h⟩
 | [],m::ms,j,h,_=>by cases h
 |e::es,[],j,h,_=>by cases h
 |e::es,m::ms,j,h1,h2=>by
  cases h1 with|cons a1 t1=>
  cases h2 with|cons a2 t2=>
  obtain ⟨i1,i2⟩:=Ee hu (es:=es) (ms:=ms) (Nat.add j 1) t1 t2;have step:∀b,Bw k e.1=some b->sameKey u m.1=some b:=fun b hb=>YV hu a1 hb
  constructor
  ·intro hf;unfold hJ at hf;unfold hX;split at hf
   ·cases hf
   ·rename_i hk;rw[step _ hk];show hX u ms (Nat.add j 1)=_;split at hf
    ·cases hf
    ·exact i1 hf
   ·cases hf
  ·intro i x hf;unfold hJ at hf;unfold hX;split at hf
   ·rename_i hk;cases hf;rw[step _ hk];refine ⟨m.2.1,m.2.2,rfl,a2,?_,by simp⟩
    have:k=e.1:=by
     unfold Bw at hk;split at hk
     ·simp at hk;subst hk;symm;assumption
     ·simp at hk;subst hk;symm;assumption
     ·obtain ⟨hkk,hk⟩:=ar hk;have hab:=of_decide_eq_true (Option.some.inj hk);have hkb:=QY hkk;subst hab;subst hkb;symm;assumption
     ·cases hk
    simp[this]
   ·rename_i hk;rw[step _ hk];show ∃v c,hX u ms (Nat.add j 1)=_/\_;split at hf
    ·rename_i p hp;cases hf;obtain ⟨v,c,b1,b2,b3,b4⟩:=i2 p.1 p.2 hp;refine ⟨v,c,?_,b2,by simpa using b3,by simpa using b4⟩
     rw[b1,show Nat.add j 1+p.1=j+(p.1+1) from by show j+1+p.1=_;omega]
    ·rename_i hne;exact absurd hf (hne _)
   ·cases hf
def KF (E:Env) (t:TypeId):Option (TI×TI):=aj (E.ty.get t) fun i=>aj (ql i.desc) fun q=>aG (E.ty.get q.1) (E.ty.get q.2) fun a b=>some (a,b)
theorem E5 {t:TypeId} {p:TI×TI} (h:KF E t=some p):∃i q,E.ty.get t=some i/\ql i.desc=some q/\E.ty.get q.1=some p.1/\E.ty.get q.2=some p.2:=by
 obtain ⟨i,hi,h⟩:=af h;obtain ⟨q,hq,h⟩:=af h;obtain ⟨a,b,h1,h2,h⟩:=az h;cases h;exact ⟨i,q,hi,hq,h1,h2⟩
def okM (ok:Bool) (v:AV) (b:Bool):AV:=sel ok (.tup [v,.bool b]) v
theorem Kx {ok b:Bool} {v:SV} {x:AV} (h:VA F g v x):VA F g (okV ok v b) (okM ok x b):=by
 cases ok
 ·exact h
 ·exact .tup (.cons h (.cons (.bool b) .nil))
def wA (ok:Bool) (z:Option AV):Option (Nat×AV)->Option AV
 |some r=>some (okM ok r.2 true)
 |none=>aj z fun z=>some (okM ok z false)
theorem Wr {t:TypeId} {a c:Operand} {ok:Bool} {p:TI×TI} {K:Nat} {es:List (AV×AV)} {k x:AV} {f:Option (Nat×AV)} (hp:KF E t=some p) (ha:aL s.ts a= .mp K) (hc:aL s.ts c=k) (hk:KQ k p.1.desc=true) (hb:lk K s.bs=some (.map es)) (hf:hJ k es=some f) (hx:wA ok (gi p.2 (dY p.2.zero) 0) f=some x) (hkx:(bV x).isEmpty=true):aP E B (.lookup t a c ok) s s x none:=aP.bi (f:=fun hp a b=>same (jN E hp t a b ok)) (fun _ _ _=>rfl) ha (by simp) hc (fun e=>by subst e;cases hk) fun {F g φ tm h v w} r hv hw=>by
 obtain ⟨i,q,hi,hq,h1,h2⟩:=E5 hp;cases hv;have q0:=r.bx K _ hb;generalize φ K=fp at q0;cases q0 with
 | @map _ ms cl hh hks hvs=>
 obtain ⟨m1,m2⟩:=Ee hw 0 hks hvs;have key:∃r,hX w ms 0=some r/\∃u,wz ok (cO p.2 p.2.zero 0) r=some u/\VA F g u x:=by
  cases f with
  |none=>
   obtain ⟨z,hz,hx⟩:=af hx;cases hx;obtain ⟨u,u1,u2⟩:=jL (jn (F:=F) (g:=.no) p.2.zero) hz;exact ⟨none,m1 hf,okV ok u false,by show aj (cO p.2 p.2.zero 0) (fun z=>some (okV ok z false))=_;rw[u1];rfl,(Kx u2).fH hkx⟩
  |some r=>
   cases hx;obtain ⟨v,c,b1,b2,_,_⟩:=m2 r.1 r.2 hf;exact ⟨_,b1,okV ok v true,rfl,(Kx b2).fH hkx⟩
 obtain ⟨r',k1,u,u1,u2⟩:=key;refine ⟨u,?_,u2⟩;show same (jN E h.hp.get t (.mp (g.ρ K)) w ok)=_;unfold jN;rw[cY hi,cY hq,lQ h1 h2,Pk hw hk];show same (aj (aj (jc (h.hp.get (g.ρ K))) fun p=>some p.1) fun es=>aj (hX w es 0) fun r=>wz ok (cO p.2 p.2.zero 0) r)=_
 rw[hh];show same (aj (hX w ms 0) fun r=>wz ok (cO p.2 p.2.zero 0) r)=_
 rw[k1];show same (wz ok (cO p.2 p.2.zero 0) r')=_;rw[u1];rfl
def CX (es:List (AV×AV)) (k v:AV):Option (Nat×AV)->List (AV×AV)
 |some r=>es.set r.1 (k,v)
 |none=>es++ [(k,v)]
theorem VAs.set:∀{vs xs} {i:Nat} {v:SV} {x:AV},VAs F g vs xs->VA F g v x->VAs F g (vs.set i v) (xs.set i x)
 |_,_,_,_,_,.nil,_=>.nil
 |_,_,0,_,_,.cons _ t,k=>.cons k t
 |_,_,i+1,_,_,.cons h t,k=>.cons h (t.set k)
theorem Wo {op:Op} {t:TypeId} {a c d:Operand} {p:TI×TI} {K:Nat} {es:List (AV×AV)} {k x:AV} {f:Option (Nat×AV)} (hop:∀tm hp new,opA E op tm hp new=two tm a c fun a b=>one tm d fun c=>unit (lC E hp t a b c)) (hp:KF E t=some p) (ha:aL s.ts a= .mp K) (hc:aL s.ts c=k) (hk:KQ k p.1.desc=true) (hd:aL s.ts d=x) (hx:x≠ .undef) (hkx:(bV x).isEmpty=true) (hb:lk K s.bs=some (.map es)) (hf:hJ k es=some f):
  aP E B op s (s.set K (.map (CX es k x f))) (.tup []) (some (K,false)):=aP.wr hb fun {F g φ tm h new} r=>by
 obtain ⟨i,q,hi,hq,h1,h2⟩:=E5 hp;obtain ⟨v,v1,v2⟩:=r.val ha (by simp)
 obtain ⟨w,w1,w2⟩:=r.val hc (fun e=>by subst e;cases hk)
 obtain ⟨u,u1,u2⟩:=r.val hd hx;cases v2;have hkk:(bV k).isEmpty=true:=by cases k<;>first|(cases hk;done)|rfl
 have q0:=r.bx K _ hb;generalize φ K=fp at q0 ⊢;cases q0 with
 | @map _ ms cl hh hks hvs=>
 obtain ⟨m1,m2⟩:=Ee w2 0 hks hvs;have key:∃r,hX w ms 0=some r/\∃ms' cl',CY ms cl w u r= .map ms' cl'/\VAs F .no (ms'.map (·.1)) ((CX es k x f).map (·.1))/\VAs F .no (ms'.map (·.2.1)) ((CX es k x f).map (·.2)):=by
  cases f with
  |none=>
   refine ⟨none,m1 hf,ms++ [(w,u,cl)],Nat.add cl 1,rfl,?_,?_⟩
   ·show VAs F .no ((ms++ [(w,u,cl)]).map (·.1)) ((es++ [(k,x)]).map (·.1))
    rw[List.map_append,List.map_append];exact hks.append (.cons (w2.fH hkk) .nil)
   ·show VAs F .no ((ms++ [(w,u,cl)]).map (·.2.1)) ((es++ [(k,x)]).map (·.2))
    rw[List.map_append,List.map_append];exact hvs.append (.cons (u2.fH hkx) .nil)
  |some r=>
   obtain ⟨v,c,b1,b2,b3,b4⟩:=m2 r.1 r.2 hf;refine ⟨_,b1,ms.set (0+r.1) (w,u,c),cl,rfl,?_,?_⟩
   ·show VAs F .no ((ms.set (0+r.1) (w,u,c)).map (·.1)) ((es.set r.1 (k,x)).map (·.1))
    rw[List.map_set,List.map_set,Nat.zero_add];exact hks.set (w2.fH hkk)
   ·show VAs F .no ((ms.set (0+r.1) (w,u,c)).map (·.2.1)) ((es.set r.1 (k,x)).map (·.2))
    rw[List.map_set,List.map_set,Nat.zero_add];exact hvs.set (u2.fH hkx)
 obtain ⟨r',k1,ms',cl',k2,k3,k4⟩:=key;refine ⟨.tup [],.map ms' cl',?_,.tup .nil,rfl,fun hp' hh'=>.map hh' k3 k4⟩
 rw[hop];unfold two one;rw[v1,w1];show aj (aM tm d) (fun c=>unit (lC E h.hp.get t (.mp (g.ρ K)) w c))=_
 rw[u1];show unit (lC E h.hp.get t (.mp (g.ρ K)) w u)=_;have e1:lC E h.hp.get t (.mp (g.ρ K)) w u=some [(g.ρ K,some (.map ms' cl'))]:=by
  show aj (E.ty.get t) (fun i=>aj (ql i.desc) fun q=>aG (E.ty.get q.1) (jc (h.hp.get (g.ρ K))) fun ik p=>sel (sY w ik.desc) (aj (hX w p.1 0) fun r=>some [(g.ρ K,some (CY p.1 p.2 w u r))]) none)=_
  rw[cY hi,cY hq,hh];show aG (E.ty.get q.1) (some (ms,cl)) (fun ik p=>sel (sY w ik.desc) (aj (hX w p.1 0) fun r=>some [(g.ρ K,some (CY p.1 p.2 w u r))]) none)=_
  rw[lQ h1 rfl,Pk w2 hk];show aj (hX w ms 0) (fun r=>some [(g.ρ K,some (CY ms cl w u r))])=_
  rw[k1];show some [(g.ρ K,some (CY ms cl w u r'))]=_;rw[k2]
 rw[e1];rfl
end
section
variable {F F':Hf} {g g':Gb} {B:Bs} {φ:Nat->List Nat} {s s' s1:LS} {tm:Tf} {h:Hs} {hp:Hf} {E:Env} {nt:Nat} {all l:List Oper}
def LO (F:Hf) (g:Gb) (φ:Nat->List Nat) (bs:List (Nat×Bx)) (h:Hs):Bs:=⟨h.hp.get,F,g,h.nx,fun k=>(lk k bs).isSome,φ⟩
def Ent (F:Hf) (g:Gb) (φ:Nat->List Nat) (bs:List (Nat×Bx)) (h:Hs):Prop:=Rel (LO F g φ bs h) F g φ ⟨[],bs⟩ (fun _=>none) ⟨h.hp,h.nx,[]⟩
structure aZ (E:Env) (f:Nat) (bs:List (Nat×Bx)) (xs:List AV) (y:AV) (bs':List (Nat×Bx)):Prop where
 go:∀{F:Hf} {g:Gb} {φ:Nat->List Nat} {h:Hs} {aa:List SV},Ent F g φ bs h->VAs F g aa xs->∃(F':Hf) (g':Gb) (φ':Nat->List Nat) (h1:Hs) (v:SV),bw E (.call (.fn (.func f) [] []) aa h) (.cI [⟨false,v,⟨h1.hp,h1.nx,below h.nx h1.lg h.lg⟩⟩])/\VA F' g' v y/\Rel (LO F g φ bs h) F' g' φ' ⟨[],bs'⟩ (fun _=>none) h1
abbrev bt:=List (Nat×Nat)
def jR (al:bt):bt:=al.map fun q=>(q.2,q.1)
def fiP (al:bt) (K:Nat):Nat:= @Option.rec Nat (fun _=>Nat) K (fun k=>k) (lk K al)
def foP (al:bt) (k:Nat):Nat:=fiP (jR al) k
def Lt (l:bt) (K:Nat):Bool:= @Option.rec Nat (fun _=>Bool) false (fun _=>true) (lk K l)
def eT (l:bt) (ks:List Nat):Bool:=ks.all (Lt l)
def oW (al:bt):Bool:=al.all fun q=>Nat.beq (fiP al q.1) q.2&&(Lt al q.1&&(Nat.beq (foP al q.2) q.1&&Lt (jR al) q.2))
def oN (bs:List (Nat×Bx)) (al:bt):bt->Option (List (Nat×Bx))
 | []=>some []
 |q::l=>aG (lk q.1 bs) (oN bs al l) fun b r=>some ((q.2,b.ren (fiP al))::r)
def tW (bs':List (Nat×Bx)) (al:bt):bt->Option (List (Nat×Bx))
 | []=>some []
 |q::l=>aG (lk q.2 bs') (tW bs' al l) fun b r=>some ((q.1,b.ren (foP al))::r)
def oS (bs:List (Nat×Bx)) (ps:bt):bt->Bool
 | []=>true
 |q::l=>(match lk q.1 bs with|some b=>eT ps b.keys|none=>false)&&oS bs ps l
def oQ (bs':List (Nat×Bx)) (al:bt):bt->Bool
 | []=>true
 |q::l=>(match lk q.2 bs' with|some b=>eT (jR al) b.keys|none=>false)&&oQ bs' al l
theorem qx {l:bt} {K:Nat} (h:Lt l K=true):∃k,lk K l=some k:=by
 unfold Lt at h;cases hl:lk K l with
 |none=>rw[hl] at h;cases h
 |some k=>exact ⟨k,rfl⟩
theorem n4 {l:bt} {K k:Nat} (h:lk K l=some k):fiP l K=k:=by unfold fiP;rw[h]
theorem aeE {al:bt} {K k:Nat} (hg:oW al=true) (h:lk K al=some k):lk k (jR al)=some K:=by
 have:=(List.all_eq_true.1 hg) (K,k) (nV h);rw[Bool.and_eq_true,Bool.and_eq_true,Bool.and_eq_true] at this;obtain ⟨_,_,h3,h4⟩:=this;obtain ⟨j,hj⟩:=qx h4;have:foP al k=j:=n4 hj;rw[hj,<-this];exact congrArg some ((beq_iff _ _).1 h3)
theorem Wz {al:bt} {K k:Nat} (hg:oW al=true) (h:lk k (jR al)=some K):lk K al=some k:=by
 obtain ⟨q,hq,he⟩:=List.mem_map.1 (nV h);have:=(List.all_eq_true.1 hg) q hq;rw[Bool.and_eq_true,Bool.and_eq_true,Bool.and_eq_true] at this;obtain ⟨h1,h2,_,_⟩:=this;cases he;obtain ⟨j,hj⟩:=qx h2;have:fiP al q.1=j:=n4 hj;rw[hj,<-this];exact congrArg some ((beq_iff _ _).1 h1)
theorem vY {α:Type} (t:Nat) (b:List (Nat×α)):∀a:List (Nat×α),lk t (a++b)=(lk t a).or (lk t b)
 | []=>rfl
 |(k,x)::a=>by
  rw[List.cons_append,aW,aW];split
  ·rfl
  ·exact vY t b a
theorem OM {bs:List (Nat×Bx)} {al:bt}:∀{l:bt} {r:List (Nat×Bx)} {k:Nat} {b':Bx},oN bs al l=some r->lk k r=some b'->∃K b,(K,k)∈l/\lk K bs=some b/\b'=b.ren (fiP al)
 | [],r,k,b',h,hk=>by cases h;cases hk
 |q::l,r,k,b',h,hk=>by
  obtain ⟨b,r',h1,h2,h3⟩:=az h;cases h3;rw[aW] at hk;split at hk
  ·rename_i e;cases hk;exact ⟨q.1,b,by rw[e];exact List.mem_cons_self,h1,rfl⟩
  ·obtain ⟨K,b0,m1,m2,m3⟩:=OM h2 hk;exact ⟨K,b0,List.mem_cons_of_mem _ m1,m2,m3⟩
theorem Kf {bs:List (Nat×Bx)} {al:bt}:∀{l:bt} {r:List (Nat×Bx)} {K k:Nat},oN bs al l=some r->(K,k)∈l->∃b,lk k r=some b
 | [],r,K,k,h,hk=>by cases hk
 |q::l,r,K,k,h,hk=>by
  obtain ⟨b,r',h1,h2,h3⟩:=az h;cases h3;rw[aW];split
  ·exact ⟨_,rfl⟩
  ·rename_i e;rcases List.mem_cons.1 hk with rfl|hk
   ·exact absurd rfl e
   ·exact Kf h2 hk
theorem Wl {bs':List (Nat×Bx)} {al:bt}:∀{l:bt} {r:List (Nat×Bx)} {K:Nat} {b':Bx},tW bs' al l=some r->lk K r=some b'->∃k b,(K,k)∈l/\lk k bs'=some b/\b'=b.ren (foP al)
 | [],r,K,b',h,hk=>by cases h;cases hk
 |q::l,r,K,b',h,hk=>by
  obtain ⟨b,r',h1,h2,h3⟩:=az h;cases h3;rw[aW] at hk;split at hk
  ·rename_i e;cases hk;exact ⟨q.2,b,by rw[e];exact List.mem_cons_self,h1,rfl⟩
  ·obtain ⟨k,b0,m1,m2,m3⟩:=Wl h2 hk;exact ⟨k,b0,List.mem_cons_of_mem _ m1,m2,m3⟩
theorem Ki {bs':List (Nat×Bx)} {al:bt}:∀{l:bt} {r:List (Nat×Bx)} {K:Nat},tW bs' al l=some r->lk K r=none->lk K l=none
 | [],r,K,h,hk=>rfl
 |q::l,r,K,h,hk=>by
  obtain ⟨b,r',h1,h2,h3⟩:=az h;cases h3;rw[aW] at hk;rw[show q::l=(q.1,q.2)::l from rfl,aW];split at hk
  ·cases hk
  ·rename_i e;rw[if_neg e];exact Ki h2 hk
theorem Fa {bs:List (Nat×Bx)} {ps:bt}:∀{l:bt} {K k:Nat} {b:Bx},oS bs ps l=true->(K,k)∈l->lk K bs=some b->eT ps b.keys=true
 |q::l,K,k,b,h,hm,hb=>by
  have h:=Bool.and_eq_true_iff.1 (show ((match lk q.1 bs with|some b=>eT ps b.keys|none=>false)&&oS bs ps l)=true from h)
  rcases List.mem_cons.1 hm with rfl|hm
  ·have:=h.1;rw[hb] at this;exact this
  ·exact Fa h.2 hm hb
theorem E9 {bs':List (Nat×Bx)} {al:bt}:∀{l:bt} {K k:Nat} {b:Bx},oQ bs' al l=true->(K,k)∈l->lk k bs'=some b->eT (jR al) b.keys=true
 |q::l,K,k,b,h,hm,hb=>by
  have h:=Bool.and_eq_true_iff.1 (show ((match lk q.2 bs' with|some b=>eT (jR al) b.keys|none=>false)&&oQ bs' al l)=true from h)
  rcases List.mem_cons.1 hm with rfl|hm
  ·have:=h.1;rw[hb] at this;exact this
  ·exact E9 h.2 hm hb
theorem fh {al:bt} (hg:oW al=true) {K k:Nat} (h:(K,k)∈al):lk K al=some k:=by
 have:=(List.all_eq_true.1 hg) (K,k) h;rw[Bool.and_eq_true,Bool.and_eq_true,Bool.and_eq_true] at this;obtain ⟨h1,h2,_,_⟩:=this;obtain ⟨j,hj⟩:=qx h2;have:fiP al K=j:=n4 hj;rw[hj,<-this];exact congrArg some ((beq_iff _ _).1 h1)
theorem Rel.call (r : Rel B F g φ s tm h) {ps rs : bt} {bs bs' ob : List (Nat × Bx)} {xs : List AV} {y : AV} {aa : List SV} {f : Nat} {hh : Hs} {Hd : Nat -> Prop} (hh0 : ∀ x, ¬ Hd x -> hh.hp.get x = h.hp.get x) (hh1 : ∀ x, Hd x -> hh.hp.get x = none /\ F x = none /\ x < h.nx /\ ∀ K k b, (K, k) ∈ ps -> lk K s.bs = some b -> x ∉ φ K) (hhx : hh.nx = h.nx) (hg : oW (ps ++ rs) = true) (hps : oN s.bs (ps ++ rs) ps = some bs) (hkb : oS s.bs ps ps = true) (hkx : eT ps (cQ xs) = true) (has : VAs F g aa xs)
    (hrs : ∀ q ∈ rs, s.free q.1 /\ B.pk q.1 = false /\ lk q.1 s.bs = none) (hc : aZ E f bs (g7 (fiP (ps ++ rs)) xs) y bs') (hob : tW bs' (ps ++ rs) (ps ++ rs) = some ob) (hko : oQ bs' (ps ++ rs) (ps ++ rs) = true) (hky : eT (jR (ps ++ rs)) (bV y) = true) :
    ∃ (F' : Hf) (g' : Gb) (φ' : Nat -> List Nat) (h1 : Hs) (v : SV), bw E (.call (.fn (.func f) [] []) aa hh) (.cI [⟨false, v, ⟨h1.hp, h1.nx, below hh.nx h1.lg hh.lg⟩⟩]) /\ VA F' g' v (jP (foP (ps ++ rs)) y) /\
      (∀ h', (∀ x, ¬ Hd x -> h'.hp.get x = h1.hp.get x) -> (∀ x, Hd x -> h'.hp.get x = h.hp.get x) -> h'.nx = h1.nx -> (∀ x ∈ h'.lg, x ∈ h.lg \/ (x ∈ h1.lg /\ x < h.nx)) -> Rel B F' g' φ' ⟨s.ts, ob ++ s.bs⟩ tm h') /\
      Hle F F' /\ (∀ id o, F' id = some o -> F id = some o \/ h.nx <= id) /\ h.nx <= h1.nx /\ (∀ x ∈ h1.lg, x < h.nx -> ∃ K k b, (K, k) ∈ ps /\ lk K s.bs = some b /\ x ∈ φ K) /\
      (∀ k b, lk k (ob ++ s.bs) = some b -> ∀ i ∈ φ' k, (i < h.nx /\ ∃ b, lk k s.bs = some b /\ i ∈ φ k) \/ h.nx <= i) /\ (∀ ks : List Nat, (∀ q ∈ rs, q.1 ∉ ks) -> fT g g' ks) /\ (∀ K, lk K (ps ++ rs) = none -> φ' K = φ K) /\
      ∀ x, x < h.nx -> (∀ K k b, (K, k) ∈ ps -> lk K s.bs = some b -> x ∉ φ K) -> h1.hp.get x = hh.hp.get x := by
  generalize hal : ps ++ rs = al at *
  have qv : ∀ {q}, q ∈ ps -> q ∈ al := fun hq => by rw [<- hal]; exact List.mem_append_left _ hq
  have agn : ∀ {q}, q ∈ rs -> q ∈ al := fun hq => by rw [<- hal]; exact List.mem_append_right _ hq
  let gc : Gb := ⟨fun k => g.ρ (foP al k), fun k => g.κ (foP al k), fun k => g.β (foP al k)⟩
  let φc : Nat -> List Nat := fun k => φ (foP al k)
  have ay : ∀ {K k}, lk K al = some k -> foP al k = K := fun hK => n4 (aeE hg hK)
  have hin : ∀ ks, eT ps ks = true -> kq g gc (fiP al) ks := fun ks hk k hks => by
    obtain ⟨j, hj⟩ := qx ((List.all_eq_true.1 hk) k hks)
    have hj' := fh hg (qv (nV hj))
    rw [n4 hj']
    have := ay hj'
    exact ⟨congrArg g.ρ this, congrArg g.κ this, congrArg g.β this⟩
  have hbl : ∀ {k b'}, lk k bs = some b' -> ∃ K b, (K, k) ∈ ps /\ lk K s.bs = some b /\ b' = b.ren (fiP al) /\ foP al k = K := fun hk => by
    obtain ⟨K, b, m1, m2, m3⟩ := OM hps hk
    exact ⟨K, b, m1, m2, m3, ay (fh hg (qv m1))⟩
  have BK : ∀ {K k b}, (K, k) ∈ ps -> lk K s.bs = some b -> ∀ i ∈ φ K, hh.hp.get i = h.hp.get i := fun m1 m2 i hi => hh0 i fun e => (hh1 i e).2.2.2 _ _ _ m1 m2 hi
  have ent : Ent F gc φc bs hh := by
    refine ⟨fun t x hx => (by cases hx), fun k b' hk => ?_, fun k k' b1 b2 hk hk' hne i hi => ?_, fun k b' hk i hi => ?_, fun i o ho => ?_, fun x hx => ?_, Nat.le_refl _, fun x _ _ => rfl, Hle.refl F, fun _ _ ho => .inl ho, fun k b' hk i hi => .inl ⟨by show (lk k bs).isSome = true; rw [hk]; rfl, hi⟩, fun x hx => (by cases hx), fun k _ j hj => ⟨rfl, rfl, rfl⟩⟩
    · obtain ⟨K, b, m1, m2, rfl, m4⟩ := hbl hk
      have hK := fh hg (qv m1)
      have q := ((r.bx K b m2).fL (h' := hh.hp.get) (Hle.refl F) fun i hi => BK m1 m2 i hi).ren (g' := gc) (f := fiP al) (fun j hj => by rw [List.mem_singleton.1 hj, n4 hK]; exact ⟨congrArg g.ρ m4, congrArg g.κ m4, congrArg g.β m4⟩) (hin _ (Fa hkb m1 m2))
      rw [n4 hK] at q
      show cD F gc hh.hp.get k _ (φ (foP al k))
      rw [m4]; exact q
    · obtain ⟨K, b, m1, m2, _, m4⟩ := hbl hk
      obtain ⟨K', b', m1', m2', _, m4'⟩ := hbl hk'
      have hi : i ∈ φ (foP al k) := hi
      show i ∉ φ (foP al k')
      rw [m4] at hi; rw [m4']
      refine r.dj K K' b b' m2 m2' (fun e => hne ?_) i hi
      have e1 := fh hg (qv m1)
      have e2 := fh hg (qv m1')
      rw [e, e2] at e1
      exact (Option.some.inj e1).symm
    · obtain ⟨K, b, m1, m2, _, m4⟩ := hbl hk
      have hi : i ∈ φ (foP al k) := hi
      rw [m4] at hi
      exact r.nf K b m2 i hi
    · exact (hh0 i fun e => by rw [(hh1 i e).2.1] at ho; cases ho).trans (r.sub i o ho)
    · have hx : h.nx <= x := by rw [<- hhx]; exact hx
      exact (hh0 x fun e => by have := (hh1 x e).2.2.1; omega).trans (r.bd x hx)
  obtain ⟨F', g', φ', h1, v, go, hv, r1⟩ := hc.go ent (has.ren (hin _ hkx))
  let rw' : bt := rs
  let g2 : Gb := ⟨fun K => @Option.rec Nat (fun _ => Nat) (g.ρ K) (fun k => g'.ρ k) (lk K al), fun K => @Option.rec Nat (fun _ => Cp) (g.κ K) (fun k => g'.κ k) (lk K al), fun K => @Option.rec Nat (fun _ => Bool) (g.β K) (fun k => g'.β k) (lk K al)⟩
  let φ2 : Nat -> List Nat := fun K => @Option.rec Nat (fun _ => List Nat) (φ K) (fun k => φ' k) (lk K al)
  have ZC : ∀ {K k}, lk K al = some k -> g2.ρ K = g'.ρ k /\ g2.κ K = g'.κ k /\ g2.β K = g'.β k := fun {K k} hK => by
    show @Option.rec Nat (fun _ => Nat) (g.ρ K) (fun k => g'.ρ k) (lk K al) = _ /\ @Option.rec Nat (fun _ => Cp) (g.κ K) (fun k => g'.κ k) (lk K al) = _ /\ @Option.rec Nat (fun _ => Bool) (g.β K) (fun k => g'.β k) (lk K al) = _
    rw [hK]; exact ⟨rfl, rfl, rfl⟩
  have g2no : ∀ {K}, lk K al = none -> g2.ρ K = g.ρ K /\ g2.κ K = g.κ K /\ g2.β K = g.β K := fun {K} hK => by
    show @Option.rec Nat (fun _ => Nat) (g.ρ K) (fun k => g'.ρ k) (lk K al) = _ /\ @Option.rec Nat (fun _ => Cp) (g.κ K) (fun k => g'.κ k) (lk K al) = _ /\ @Option.rec Nat (fun _ => Bool) (g.β K) (fun k => g'.β k) (lk K al) = _
    rw [hK]; exact ⟨rfl, rfl, rfl⟩
  have qQ : ∀ {K k}, lk K al = some k -> φ2 K = φ' k := fun {K k} hK => by
    show @Option.rec Nat (fun _ => List Nat) (φ K) (fun k => φ' k) (lk K al) = _
    rw [hK]
  have oE : ∀ {K}, lk K al = none -> φ2 K = φ K := fun {K} hK => by
    show @Option.rec Nat (fun _ => List Nat) (φ K) (fun k => φ' k) (lk K al) = _
    rw [hK]
  have hpkB : ∀ {K k}, (K, k) ∈ ps -> (lk k bs).isSome = true := fun hq => by
    obtain ⟨b, hb⟩ := Kf hps hq
    rw [hb]; rfl
  have g2ps : ∀ {K k}, (K, k) ∈ ps -> g2.ρ K = g.ρ K /\ g2.κ K = g.κ K /\ g2.β K = g.β K := fun {K k} hq => by
    have hK := fh hg (qv hq)
    obtain ⟨a1, a2, a3⟩ := ZC hK
    obtain ⟨c1, c2, c3⟩ := r1.pin k (hpkB hq) k (by simp)
    have hb := ay hK
    exact ⟨a1.trans (c1.trans (congrArg g.ρ hb)), a2.trans (c2.trans (congrArg g.κ hb)), a3.trans (c3.trans (congrArg g.β hb))⟩
  have hgs : ∀ ks : List Nat, (∀ q ∈ rs, q.1 ∉ ks) -> fT g g2 ks := fun ks hk K hK => by
    cases hl : lk K al with
    | none => exact g2no hl
    | some k =>
      have hm := nV hl
      rw [<- hal] at hm
      rcases List.mem_append.1 hm with hm | hm
      · exact g2ps hm
      · exact absurd hK (hk _ hm)
  have Ry : ∀ ks, eT (jR al) ks = true -> kq g' g2 (foP al) ks := fun ks hk k hks => by
    obtain ⟨K, hK⟩ := qx ((List.all_eq_true.1 hk) k hks)
    have e : foP al k = K := n4 hK
    rw [e]
    exact ZC (Wz hg hK)
  have lkb : ∀ {K b}, lk K (ob ++ s.bs) = some b -> (∃ k b0, (K, k) ∈ al /\ lk k bs' = some b0 /\ b = b0.ren (foP al)) \/ (lk K al = none /\ lk K s.bs = some b) := fun {K b} hK => by
    rw [vY] at hK
    cases ho : lk K ob with
    | none => rw [ho] at hK; exact .inr ⟨Ki hob ho, hK⟩
    | some b1 =>
      rw [ho] at hK
      cases hK
      exact .inl (Wl hob ho)
  have Bn : ∀ {K k b0}, (K, k) ∈ al -> lk k bs' = some b0 -> ∀ i ∈ φ' k, (i < h.nx /\ (K, k) ∈ ps /\ ∃ b, lk K s.bs = some b /\ i ∈ φ K) \/ h.nx <= i := fun {K k b0} hm hb i hi => by
    rcases r1.gJ k b0 hb i hi with ⟨c1, c2⟩ | c
    · have c1 : (lk k bs).isSome = true := c1
      obtain ⟨b', hb'⟩ := Option.isSome_iff_exists.1 c1
      obtain ⟨K', b, m1, m2, _, m4⟩ := hbl hb'
      have hKK : K' = K := by rw [<- m4]; exact ay (fh hg hm)
      subst hKK
      have c2 : i ∈ φ (foP al k) := c2
      rw [m4] at c2
      exact .inl ⟨r.lt m2 i c2, m1, b, m2, c2⟩
    · exact .inr (by rw [<- hhx]; exact c)
  have hold : ∀ x, x < h.nx -> (∀ K k b, (K, k) ∈ ps -> lk K s.bs = some b -> x ∉ φ K) -> h1.hp.get x = hh.hp.get x := fun x hx hno => r1.old x (show x < hh.nx by rw [hhx]; exact hx) fun k hp => by
    have c1 : (lk k bs).isSome = true := hp.1
    obtain ⟨b', hb'⟩ := Option.isSome_iff_exists.1 c1
    obtain ⟨K', b, m1, m2, _, m4⟩ := hbl hb'
    have c2 : x ∈ φ (foP al k) := hp.2
    rw [m4] at c2
    exact hno K' k b m1 m2 c2
  refine ⟨F', g2, φ2, h1, v, go, hv.ren (Ry _ hky), fun h' hx0 hx1 hn' hl' => ?_, r1.f0, fun id o ho => ?_, ?_, fun x hx hlt => ?_, fun K b hK i hi => ?_, hgs, fun K hK => oE hK, hold⟩
  rotate_left
  · rcases r1.fn id o ho with c | c
    · exact .inl c
    · exact .inr (by rw [<- hhx]; exact c)
  · have : hh.nx <= h1.nx := r1.nx
    omega
  · rcases r1.lg x hx with ⟨k, c1, c2⟩ | c
    · have c1 : (lk k bs).isSome = true := c1
      obtain ⟨b', hb'⟩ := Option.isSome_iff_exists.1 c1
      obtain ⟨K', b, m1, m2, _, m4⟩ := hbl hb'
      have c2 : x ∈ φ (foP al k) := c2
      rw [m4] at c2
      exact ⟨K', k, b, m1, m2, c2⟩
    · have c : hh.nx <= x := c
      omega
  · rcases lkb hK with ⟨k, b0, m1, m2, _⟩ | ⟨m1, m2⟩
    · rw [qQ (fh hg m1)] at hi
      rcases Bn m1 m2 i hi with ⟨c1, _, c2⟩ | c
      · exact .inl ⟨c1, c2⟩
      · exact .inr c
    · rw [oE m1] at hi
      exact .inl ⟨r.lt m2 i hi, b, m2, hi⟩
  have nx1 : h.nx <= h1.nx := by have : hh.nx <= h1.nx := r1.nx; omega
  have hpk : ∀ {K k b0}, (K, k) ∈ al -> lk k bs' = some b0 -> ∀ i ∈ φ' k, h'.hp.get i = h1.hp.get i := fun hm hb i hi => hx0 i fun e => by
    rcases Bn hm hb i hi with ⟨_, m1, b, m2, m3⟩ | c
    · exact (hh1 i e).2.2.2 _ _ _ m1 m2 m3
    · have := (hh1 i e).2.2.1; omega
  have adq : ∀ x, x < h.nx -> (∀ K k b, (K, k) ∈ ps -> lk K s.bs = some b -> x ∉ φ K) -> h'.hp.get x = h.hp.get x := fun x hx hno => by
    by_cases e : Hd x
    · exact hx1 x e
    · rw [hx0 x e, hold x hx hno, hh0 x e]
  have Zp : ∀ {K}, lk K al = none -> ∀ {b}, lk K s.bs = some b -> ∀ i ∈ φ K, ∀ K' k' b', (K', k') ∈ ps -> lk K' s.bs = some b' -> i ∉ φ K' := fun {K} hK {b} hb i hi K' k' b' hp hb' => r.dj K K' b b' hb hb' (fun e => by
    have := fh hg (qv hp)
    rw [<- e, hK] at this; cases this) i hi
  have hF0 : ∀ {i}, i < h.nx -> F i = none -> F' i = none := fun {i} hlt hf => by
    cases hF' : F' i with
    | none => rfl
    | some o => rcases r1.fn i o hF' with c | c
                · have c : F i = some o := c; rw [hf] at c; cases c
                · have c : hh.nx <= i := c; omega
  refine ⟨fun t x hx hn => ?_, fun K b hK => ?_, fun K K' b b2 hK hK' hne i hi => ?_, fun K b hK i hi => ?_, fun i o ho => ?_, fun x hx => ?_, ?_, fun x hx hp => ?_, r.f0.trans r1.f0, fun id o ho => ?_, fun K b hK i hi => ?_, fun x hx => ?_, fun K hK => ?_⟩
  · obtain ⟨v, v1, v2⟩ := r.tm t x hx hn
    exact ⟨v, v1, (v2.mono r1.f0).gb (hgs _ fun q hq => (hrs q hq).1.1 t x hx)⟩
  · rcases lkb hK with ⟨k, b0, m1, m2, rfl⟩ | ⟨m1, m2⟩
    · have hKl := fh hg m1
      rw [qQ hKl]
      have q := ((r1.bx k b0 m2).fL (h' := h'.hp.get) (Hle.refl F') fun i hi => hpk m1 m2 i hi).ren (g' := g2) (f := foP al) (fun j hj => by rw [List.mem_singleton.1 hj, ay hKl]; exact ZC hKl) (Ry _ (E9 hko m1 m2))
      rwa [ay hKl] at q
    · rw [oE m1]
      have q := ((r.bx K b m2).fL (h' := h'.hp.get) r1.f0 fun i hi => adq i (r.lt m2 i hi) (Zp m1 m2 i hi))
      exact q.gb (fun j hj => by rw [List.mem_singleton.1 hj]; exact g2no m1) (hgs _ fun q hq => fun hc => (hrs q hq).1.2 K b (fun e => by have := fh hg (agn (show (q.1, q.2) ∈ rs from hq)); rw [<- e, m1] at this; cases this) m2 hc)
  · rcases lkb hK with ⟨k, b0, m1, m2, _⟩ | ⟨m1, m2⟩ <;> rcases lkb hK' with ⟨k', b0', m1', m2', _⟩ | ⟨m1', m2'⟩
    · rw [qQ (fh hg m1)] at hi
      rw [qQ (fh hg m1')]
      refine r1.dj k k' b0 b0' m2 m2' (fun e => hne ?_) i hi
      have e1 := ay (fh hg m1)
      have e2 := ay (fh hg m1')
      rw [<- e1, <- e2, e]
    · rw [qQ (fh hg m1)] at hi
      rw [oE m1']
      intro hc
      rcases Bn m1 m2 i hi with ⟨_, c1, b3, c2, c3⟩ | c
      · exact Zp m1' m2' i hc K k b3 c1 c2 c3
      · have := r.lt m2' i hc; omega
    · rw [oE m1] at hi
      rw [qQ (fh hg m1')]
      intro hc
      rcases Bn m1' m2' i hc with ⟨_, c1, b3, c2, c3⟩ | c
      · exact Zp m1 m2 i hi K' k' b3 c1 c2 c3
      · have := r.lt m2 i hi; omega
    · rw [oE m1] at hi
      rw [oE m1']
      exact r.dj K K' b b2 m2 m2' hne i hi
  · rcases lkb hK with ⟨k, b0, m1, m2, _⟩ | ⟨m1, m2⟩
    · rw [qQ (fh hg m1)] at hi; exact r1.nf k b0 m2 i hi
    · rw [oE m1] at hi; exact hF0 (r.lt m2 i hi) (r.nf K b m2 i hi)
  · refine (hx0 i fun e => ?_).trans (r1.sub i o ho)
    obtain ⟨_, e1, e2, _⟩ := hh1 i e
    rw [hF0 e2 e1] at ho; cases ho
  · rw [hn'] at hx
    exact (hx0 x fun e => by have := (hh1 x e).2.2.1; omega).trans (r1.bd x hx)
  · rw [hn']; exact Nat.le_trans r.nx nx1
  · have hlt : x < h.nx := Nat.lt_of_lt_of_le hx r.nx
    rw [adq x hlt fun K k b m1 m2 hc => ?_]
    · exact r.old x hx hp
    · rcases r.gJ K b m2 x hc with c | c
      · exact hp K c
      · omega
  · rcases r1.fn id o ho with c | c
    · exact r.fn id o c
    · have c : hh.nx <= id := c
      have := r.nx
      exact .inr (by omega)
  · rcases lkb hK with ⟨k, b0, m1, m2, _⟩ | ⟨m1, m2⟩
    · rw [qQ (fh hg m1)] at hi
      rcases Bn m1 m2 i hi with ⟨_, _, b3, c2, c3⟩ | c
      · exact r.gJ K b3 c2 i c3
      · have := r.nx; exact .inr (by omega)
    · rw [oE m1] at hi; exact r.gJ K b m2 i hi
  · rcases hl' x hx with c | ⟨c1, c2⟩
    · exact r.lg x c
    · rcases r1.lg x c1 with ⟨k, d1, d2⟩ | d
      · have d1 : (lk k bs).isSome = true := d1
        obtain ⟨b', hb'⟩ := Option.isSome_iff_exists.1 d1
        obtain ⟨K', b, m1, m2, _, m4⟩ := hbl hb'
        have d2 : x ∈ φ (foP al k) := d2
        rw [m4] at d2
        exact (r.gJ K' b m2 x d2).elim (fun c => .inl ⟨K', c⟩) .inr
      · have d : hh.nx <= x := d
        omega
  · intro j hj
    have ej : j = K := by simpa using hj
    subst ej
    obtain ⟨c1, c2, c3⟩ := r.pin j hK j (by simp)
    obtain ⟨e1, e2, e3⟩ := hgs [j] (fun q hq hc => by
      have : q.1 = j := by simpa using Eq.symm (List.mem_singleton.1 hc) |>.symm
      have hpk' := (hrs q hq).2.1
      rw [this, hK] at hpk'; cases hpk') j (by simp)
    exact ⟨e1.trans c1, e2.trans c2, e3.trans c3⟩
end
section
variable {F F':Hf} {g g':Gb} {B:Bs} {φ:Nat->List Nat} {s s' s1:LS} {tm:Tf} {h:Hs} {hp:Hf} {E:Env} {nt:Nat} {all l:List Oper}
theorem gN.call {p:Oper} {c:Call} {o:Operand} {f:Nat} {ps rs:bt} {bs bs' ob:List (Nat×Bx)} {fi ca xs:List AV} {y:AV} (hd:cK nt p.dst=true) (hw:jo all p s.ts=some true) (hc:dB p.op=some c) (hf:c.callee= .value o) (hfv:aL s.ts o= .fn f fi ca) (hxs:fi++fO s.ts c.args.toList++ca=xs) (hu:eQ (fO s.ts c.args.toList)=true)
  (hg:oW (ps++rs)=true) (hps:oN s.bs (ps++rs) ps=some bs) (hkb:oS s.bs ps ps=true) (hkx:eT ps (cQ xs)=true) (hrs:∀q∈rs,s.free q.1/\B.pk q.1=false/\lk q.1 s.bs=none) (hC:aZ E f bs (g7 (fiP (ps++rs)) xs) y bs') (hob:tW bs' (ps++rs) (ps++rs)=some ob) (hko:oQ bs' (ps++rs) (ps++rs)=true) (hky:eT (jR (ps++rs)) (bV y)=true)
  (hl:gN E nt B all l (LS.bB ⟨s.ts,ob++s.bs⟩ p.dst (jP (foP (ps++rs)) y)) s'):gN E nt B all (p::l) s s':=fun F g φ tm h r=>by
 subst hxs;obtain ⟨aa,a1,a2⟩:=r.bT hu;obtain ⟨fv,f1,f2⟩:=r.val hfv (by simp)
 obtain ⟨fs,cs,rfl,h1,h2⟩:∃fs cs,fv= .fn (.func f) fs cs/\VAs F g fs fi/\VAs F g cs ca:=by
  cases f2 with
  |fn _ h1 h2=>exact ⟨_,_,rfl,h1,h2⟩
 replace a2:=(h1.append a2).append h2;obtain ⟨F',g',φ',h1,v,go,hv,hr,_⟩:=r.call (hh:=h) (Hd:=fun _=>False) (fun _ _=>rfl) (fun _ hc=>hc.elim) rfl hg hps hkb hkx a2 hrs hC hob hko hky
 have r2:=hr ⟨h1.hp,h1.nx,below h.nx h1.lg h.lg⟩ (fun _ _=>rfl) (fun _ hc=>hc.elim) rfl (fun x hx=>by
  have hb:∀(l acc:List Nat),x∈below h.nx l acc->x∈acc\/(x∈l/\x<h.nx):=fun l=>by
   induction l with
   |nil=>exact fun acc hx=>.inl hx
   |cons y l ih=>
    intro acc hx;have hx:x∈sel (Nat.ble (Nat.succ y) h.nx) (below h.nx l (y::acc)) (below h.nx l acc):=hx;rw[aC] at hx;split at hx
    ·rename_i hlt;rcases ih _ hx with c|c
     ·rcases List.mem_cons.1 c with rfl|c
      ·exact .inr ⟨by simp,Nat.le_of_ble_eq_true hlt⟩
      ·exact .inl c
     ·exact .inr ⟨List.mem_cons_of_mem _ c.1,c.2⟩
    ·rcases ih _ hx with c|c
     ·exact .inl c
     ·exact .inr ⟨List.mem_cons_of_mem _ c.1,c.2⟩
  exact hb _ _ hx)
 obtain ⟨F2,g2,φ2,tm',h',r',q⟩:=hl F' g' φ' _ _ (r2.bB (d:=p.dst) fun _=>hv)
 exact ⟨F2,g2,φ2,tm',h',r',.aev hd (pC r hw) hc (by rw[hf];exact f1) a1 go.dE q⟩
inductive KI where
 |code (c:Code)|block (id:Nat)|loop (c:Code)
def resume (E:Env) (nt:Nat) (P:Ex->Tr SV->Hs->Prop):List KI->Ex->Tr SV->Hs->Prop
 | [],e,tm,h=>P e tm h
 | .code c::ks,e,tm,h=>(eL e=true->∃e' tm' h',bw E (.code nt c tm [] h) (.code e' tm' [] h')/\resume E nt P ks e' tm' h')/\(eL e=false->resume E nt P ks e tm h)
 | .block id::ks,e,tm,h=>resume E nt P ks (leave id e) tm h
 | .loop c::ks,e,tm,h=>(eL e=true->∃e' tm' h',bw E (.code nt (.loop c) tm [] h) (.code e' tm' [] h')/\resume E nt P ks e' tm' h')/\(eL e=false->resume E nt P ks e tm h)
def EndP (B:Bs) (Q:Ex->LS->Prop) (e:Ex) (tm:Tr SV) (h:Hs):Prop:=∃F g φ s,Rel B F g φ s tm.get h/\Q e s
def Wk (E:Env) (nt:Nat) (B:Bs) (c:Code) (ks:List KI) (s:LS) (Q:Ex->LS->Prop):Prop:=
 ∀{F g φ} {tm:Tr SV} {h},Rel B F g φ s tm.get h->∃e' tm' h',bw E (.code nt c tm [] h) (.code e' tm' [] h')/\resume E nt (EndP B Q) ks e' tm' h'
def WkO (E:Env) (nt:Nat) (B:Bs) (e:Ex) (ks:List KI) (s:LS) (Q:Ex->LS->Prop):Prop:=
 ∀{F g φ} {tm:Tr SV} {h},Rel B F g φ s tm.get h->resume E nt (EndP B Q) ks e tm h
variable {Q:Ex->LS->Prop} {ks:List KI} {a b c:Code} {e:Ex}
theorem rf (h:eL e=true):e= .normal:=by cases e<;>first|rfl|(cases h;done)
theorem Wk.skip (h:WkO E nt B .normal ks s Q):Wk E nt B .skip ks s Q:=fun r=>⟨_,_,_,.skip,h r⟩
theorem Wk.exit {id:Nat} (h:WkO E nt B (.exit id) ks s Q):Wk E nt B (.exit id) ks s Q:=fun r=>⟨_,_,_,.exit,h r⟩
theorem Wk.ret (h:WkO E nt B .ret ks s Q):Wk E nt B .ret ks s Q:=fun r=>⟨_,_,_,.ret,h r⟩
theorem Wk.seq (h:Wk E nt B a (.code b::ks) s Q):Wk E nt B (.seq a b) ks s Q:=fun r=>by
 obtain ⟨e1,tm1,h1,go,re⟩:=h r;cases he:eL e1 with
 |true=>
  obtain ⟨e2,tm2,h2,go2,re2⟩:=re.1 he;rw[rf he] at go;exact ⟨e2,tm2,h2,go.seq go2,re2⟩
 |false=>exact ⟨e1,tm1,h1,.afH he go,re.2 he⟩
theorem Wk.Sb {x:Operand} (hx:aL s.ts x= .bool true) (h:Wk E nt B a ks s Q):Wk E nt B (.cond x a b) ks s Q:=fun r=>by
 obtain ⟨v,v1,v2⟩:=r.val hx (by simp)
 cases v2;obtain ⟨e1,tm1,h1,go,re⟩:=h r;exact ⟨e1,tm1,h1,.Sb v1 go,re⟩
theorem Wk.Sd {x:Operand} (hx:aL s.ts x= .bool false) (h:Wk E nt B b ks s Q):Wk E nt B (.cond x a b) ks s Q:=fun r=>by
 obtain ⟨v,v1,v2⟩:=r.val hx (by simp)
 cases v2;obtain ⟨e1,tm1,h1,go,re⟩:=h r;exact ⟨e1,tm1,h1,.Sd v1 go,re⟩
theorem Wk.block {id:Nat} (h:Wk E nt B c (.block id::ks) s Q):Wk E nt B (.block id c) ks s Q:=fun r=>by
 obtain ⟨e1,tm1,h1,go,re⟩:=h r;exact ⟨_,tm1,h1,.block go,re⟩
theorem Wk.loop (h:Wk E nt B c (.loop c::ks) s Q):Wk E nt B (.loop c) ks s Q:=fun r=>by
 obtain ⟨e1,tm1,h1,go,re⟩:=h r;cases he:eL e1 with
 |true=>
  obtain ⟨e2,tm2,h2,go2,re2⟩:=re.1 he;rw[rf he] at go;exact ⟨e2,tm2,h2,.loop go go2,re2⟩
 |false=>exact ⟨e1,tm1,h1,.aeD he go,re.2 he⟩
theorem Wk.region {id:Nat} {ops:Array Oper} (hl:gN E nt B ops.toList ops.toList s s1) (h:WkO E nt B .normal ks s1 Q):Wk E nt B (.region id ops false) ks s Q:=fun {F g φ tm hh} r=>by
 obtain ⟨F',g',φ',tm',h',r',go⟩:=hl F g φ tm hh r;exact ⟨_,_,_,.region go,h r'⟩
theorem WkO.code (h:Wk E nt B c ks s Q):WkO E nt B .normal (.code c::ks) s Q:=fun r=>⟨fun _=>h r,fun hc=>(by cases hc)⟩
theorem WkO.adB (he:eL e=false) (h:WkO E nt B e ks s Q):WkO E nt B e (.code c::ks) s Q:=fun r=>⟨fun hc=>(by rw[he] at hc;cases hc),fun _=>h r⟩
theorem WkO.block {id:Nat} (h:WkO E nt B (leave id e) ks s Q):WkO E nt B e (.block id::ks) s Q:=fun r=>h r
theorem WkO.loop (h:Wk E nt B (.loop c) ks s Q):WkO E nt B .normal (.loop c::ks) s Q:=fun r=>⟨fun _=>h r,fun hc=>(by cases hc)⟩
theorem WkO.abU (he:eL e=false) (h:WkO E nt B e ks s Q):WkO E nt B e (.loop c::ks) s Q:=fun r=>⟨fun hc=>(by rw[he] at hc;cases hc),fun _=>h r⟩
theorem WkO.nil (h:Q e s):WkO E nt B e [] s Q:=fun {F g φ tm hh} r=>⟨F,g,φ,s,r,h⟩
theorem Wk.JQ (hg:df B s s1) (h:Wk E nt B c ks s1 Q):Wk E nt B c ks s Q:=fun r=>by
 obtain ⟨_,_,_,r1⟩:=hg.go r;exact h r1
theorem WkO.JQ (hg:df B s s1) (h:WkO E nt B e ks s1 Q):WkO E nt B e ks s Q:=fun r=>by
 obtain ⟨_,_,_,r1⟩:=hg.go r;exact h r1
def resV (E:Env) (s:LS):ResultVar->Option AV
 | .tmp t=>lk t s.ts
 | .cell t ty=>aG (lk t s.ts) (E.ty.get ty) fun a i=>F7 i s.bs a
def J3 (E:Env) (s:LS):List ResultVar->Option (List AV)
 | []=>some []
 |r::rs=>aG (resV E s r) (J3 E s rs) fun v l=>some (v::l)
def kI:List AV->AV
 | [v]=>v
 |vs=>.tup vs
theorem aep (r:Rel B F g φ s tm h) {x:ResultVar} {y:AV} (hx:resV E s x=some y) (hu:y≠ .undef):∃v,A2 E tm h.hp.get x=some v/\VA F g v y:=by
 cases x with
 |tmp t=>exact r.tm t y hx hu
 |cell t ty=>
  obtain ⟨a,i,h1,h2,h3⟩:=az hx;obtain ⟨v,v1,v2⟩:=r.tm t a h1 (fun e=>by subst e;cases h3)
  obtain ⟨u,u1,u2⟩:=Pj (E:=E) (t:=ty) h2 h3 r v2;refine ⟨u,?_,u2⟩;show aj (tm t) (g8 E h.hp.get ty)=_;rw[v1];exact UC u1
theorem OH (r:Rel B F g φ s tm h):∀{l:List ResultVar} {ys:List AV},J3 E s l=some ys->eQ ys=true->∃vs,jI E tm h.hp.get l=some vs/\VAs F g vs ys
 | [],_,hy,_=>by cases hy;exact ⟨[],rfl,.nil⟩
 |x::l,ys,hy,hu=>by
  obtain ⟨a,m,h1,h2,h3⟩:=az hy;cases h3;obtain ⟨u1,u2⟩:=vU hu;obtain ⟨v,v1,v2⟩:=aep r h1 u1;obtain ⟨vs,w1,w2⟩:=OH r h2 u2;exact ⟨v::vs,by show aG _ _ _=_;rw[v1,w1];rfl,.cons v2 w2⟩
def pd:Nat->List AV->List (Nat×AV)
 |_,[]=> []
 |i,x::l=>(i,x)::pd (i+1) l
theorem Mf:∀{xs:List AV} {aa:List SV},VAs F g aa xs->∀{i t:Nat} {x:AV},lk t (pd i xs)=some x->∃v,i<=t/\t<i+aa.length/\aa[t-i]? =some v/\VA F g v x
 | [],_,_,i,t,x,h=>by cases h
 |y::l,_,.cons (vs:=vs) hv q,i,j,x,h=>by
  rw[show pd i (y::l)=(i,y)::pd (i+1) l from rfl,aW] at h;split at h
  ·rename_i e;cases h;subst e;exact ⟨_,Nat.le_refl _,by simp,by simp,hv⟩
  ·obtain ⟨v,a1,a2,a3,a4⟩:=Mf q h;refine ⟨v,by omega,by rw[List.length_cons];omega,?_,a4⟩
   rw[show j-i=(j-(i+1))+1 by omega,List.getElem?_cons_succ]
   exact a3
def BOK (pks:List Nat) (B:Bs):Prop:=∀k,eh k pks=false->B.pk k=false
def qp (bs:List (Nat×Bx)):List Nat:= @List.rec (Nat×Bx) (fun _=>List Nat) [] (fun p _ ih=>p.1::ih) bs
theorem WW {bs:List (Nat×Bx)} {k:Nat} (h:eh k (qp bs)=false):lk k bs=none:=by
 induction bs with
 |nil=>rfl
 |cons p l ih=>
  have h:sel (Nat.beq k p.1) true (eh k (qp l))=false:=h;rw[aC] at h;rw[show p::l=(p.1,p.2)::l from rfl,aW];split at h
  ·cases h
  ·rename_i e;rw[if_neg (fun c=>e ((beq_iff _ _).2 c))]
   exact ih h
def aaj (E:Env) (fn:Func) (y:AV) (bs':List (Nat×Bx)) (e:Ex) (s:LS):Prop:=BA e=true/\(∃ys,J3 E s fn.results.toList=some ys/\eQ ys=true/\y=kI ys)/\∀k b,lk k bs'=some b->lk k s.bs=some b
theorem afV {vs:List SV} {ys:List AV} (q:VAs F g vs ys):VA F g (oneOf vs) (kI ys):=by
 cases q with
 |nil=>exact .tup .nil
 |cons h t=>
  cases t with
  |nil=>exact h
  |cons h2 t2=>exact .tup (.cons h (.cons h2 t2))
theorem aeV {f:Nat} {fn:Func} {c:Code} {bs bs':List (Nat×Bx)} {xs:List AV} {y:AV} (hk:ye E f fn c) (hn:Nat.ble xs.length fn.ntmps=true)
  (hw:∀B,BOK (qp bs) B->Wk E fn.ntmps B c [] ⟨pd 0 xs,bs⟩ (aaj E fn y bs')):aZ E f bs xs y bs':=.mk fun {F g φ h aa} ent has=>by
 have hB:BOK (qp bs) (LO F g φ bs h):=fun k hk=>by
  show (lk k bs).isSome=false;rw[WW hk];rfl
 have r:Rel (LO F g φ bs h) F g φ ⟨pd 0 xs,bs⟩ (setArgs aa 0 .nil).get ⟨h.hp,h.nx,[]⟩:={ent with tm:=fun t x hx hne=>(Mf has hx).elim fun v ha=>⟨v,by rw[rW,if_pos ⟨ha.1,ha.2.1⟩];exact ha.2.2.1,ha.2.2.2⟩}
 obtain ⟨e,tm1,h1,go,F',g',φ',s',r1,he,⟨ys,y1,y2,y3⟩,hbs⟩:=hw _ hB r;obtain ⟨vs,w1,w2⟩:=OH r1 y1 y2;refine ⟨F',g',φ',h1,oneOf vs,?_,by rw[y3];exact afV w2,?_⟩
 ·have:=bw.call (E:=E) (h:=h) hk (fi:= []) (aa:=aa) (ca:= []) (vs:=vs) (by rw[List.nil_append,List.append_nil,has.length];exact hn) he (by rw[List.nil_append,List.append_nil];exact go) w1
  exact this
 ·have r2:=r1.less (s':=⟨[],bs'⟩) ⟨fun t y hy=>(by cases hy),fun k b hb=>⟨b,hbs k b hb,WB.refl b⟩⟩
  exact {r2 with tm:=fun t x hx _=>(by cases hx)}
end
end Go.Sim
end
