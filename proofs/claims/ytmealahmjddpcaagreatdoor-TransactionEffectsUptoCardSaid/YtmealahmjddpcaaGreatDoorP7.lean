/- Texts that belong together. The first: Drawn regions: from one state to another. -/
import Derived.Test.YtmealahmjddpcaaGreatDoorP6
set_option linter.all false
noncomputable section
namespace Go.Sim
section
variable {F F':Hf} {g g':Gb} {B:Bs} {φ:Nat→List Nat} {s s' s1:LS} {tm:Tr SV} {h:Hs} {hp:Hf} {E:Env} {nt:Nat}
variable {W cur nc M:Nat} {vs vs':List LS} {laid:bw} {pis:List PI} {all l:List Oper} {o:Oper}
def dz (E:Env) (nt:Nat) (B:Bs) (all:List Oper) (W cur nc M:Nat) (vs:List LS) (laid:bw) (pis:List PI) (l:List Oper) (s':LS):Prop:=
 ∀{base:Nat} {pp:List (Rc×PI)} {g:Gb} {φ:Nat→List Nat} {Fs:Nat→Hf} {lim:Nat→Nat} {tm:Tr SV} {h:Hs},pp.map (·.2)=pis→DR B base W cur nc vs laid pp g φ Fs lim tm.get h→∃F' g' φ' tm' h',Rel B F' g' φ' s' (Tr.get tm') h'∧bz E (.draw nt W all base cur M (pp.map (·.1)) l tm h) (.st tm' h')
theorem dz.nil (hs:vs[nc]? =some s'):dz E nt B all W cur nc M vs laid pis [] s':=fun {base pp g φ Fs lim tm h} _ D=>⟨Fs nc,g,φ,tm,h,D.r nc s' hs,.aeo⟩
theorem dz.skip {st:LS} (fG:cur<W) (hd:(bX nt o.dst&&fX cur (dt o))=true) (hst:vs[nc]? =some st) (hw:jy all o st.ts=some false)
  (hl:dz E nt B all W (cur+1) nc (mc W M cur (cx W M o)) (vs.map fun s=>s.aY o.dst (.tup [])) laid (⟨cur,0,[],[],true⟩::pis) l s'):dz E nt B all W cur nc M vs laid pis (o::l) s':=fun {base pp g φ Fs lim tm h} hp D=>by
 obtain ⟨hi,D2⟩:=D.skip (d:=o.dst) (m:=cx W M o) fG;obtain ⟨F',g',φ',tm',h',r',go⟩:=hl (by rw[List.map_cons,hp]) D2
 exact ⟨F',g',φ',tm',h',r',.ZQ hd (pn (D.r nc st hst) hw) hi go⟩
theorem dz.op {x:AV} {Wk:WK} {st sl:LS} {rk:List Nat} {v:Nat} (fG:cur<W) (hd:(bX nt o.dst&&fX cur (dt o))=true) (hst:vs[nc]? =some st) (hw:jy all o st.ts=some true) (hc:dx o.op=none) (hl:vs[v]? =some sl) (hlen:vs'.length=vs.length)
  (hOK:∀j s,vs[j]? =some s→v≤j→∃t,vs'[j]? =some (t.aY o.dst x)∧aP E B o.op s t x Wk) (DI:∀j s,vs[j]? =some s→j<v→vs'[j]? =some ((s.oP Wk).aY o.dst .undef))
  (hrk:sP sl.ts sl.bs o.op=some rk) (nC:∀k j,(k∈rk∨k∈lh Wk)→(k,j)∈laid→dC (cx W M o) j=true) (se:∀q∈pis,xV v (cx W M o) rk (lh Wk) false (uT Wk) q)
  (hn:dz E nt B all W (cur+1) nc (mc W M cur (cx W M o)) vs' (FI Wk cur laid) (⟨cur,0,rk,lh Wk,uT Wk⟩::pis) l s'):dz E nt B all W cur nc M vs laid pis (o::l) s':=fun {base pp g φ Fs lim tm h} hp D=>by
 obtain ⟨u,us,o1,o2,g',φ',D2⟩:=D.op fG hl hlen hOK DI hrk nC fun q hq=>se q.2 (by rw[←hp];exact List.mem_map.2 ⟨q,hq,rfl⟩)
 obtain ⟨F2,g2,φ2,tm',h',r',go⟩:=hn (by rw[List.map_cons,hp]) D2
 exact ⟨F2,g2,φ2,tm',h',r',.aem hd (pn (D.r nc st hst) hw) hc o1 o2 go⟩
theorem dz.call {c:Call} {w:Operand} {f:Nat} {st:LS} {ps rs:bw} {bs bs' ob:List (Nat×Bx)} {fi ca xs:List AV} {y:AV} (fG:cur<W) (hd:(bX nt o.dst&&fX cur (dt o))=true) (hst:vs[nc]? =some st) (hw:jy all o st.ts=some true) (hc:dx o.op=some c) (hf:c.callee= .value w) (hfv:aJ st.ts w= .fn f fi ca) (hxs:fi++fQ st.ts c.args.toList++ca=xs) (hu:eR (fQ st.ts c.args.toList)=true)
  (hg:oT (ps++rs)=true) (hps:oI st.bs (ps++rs) ps=some bs) (hkb:oO st.bs ps ps=true) (hkx:eT ps (cI xs)=true) (hrs:∀q∈rs,st.free q.1∧B.pk q.1=false∧lk q.1 st.bs=none) (hC:bC E f bs (ir (fiP (ps++rs)) xs) y bs') (hob:tD bs' (ps++rs) (ps++rs)=some ob) (hko:oM bs' (ps++rs) (ps++rs)=true) (hky:eT (j8 (ps++rs)) (bW y)=true)
  (nC:∀k j,k∈ps.map (·.1)→(k,j)∈laid→dC (cx W M o) j=true) (se:∀q∈pis,xV nc (cx W M o) [] (ps.map (·.1)) true false q)
  (hn:dz E nt B all W (cur+1) (nc+1) (mc W M cur (cx W M o)) ((vs.map fun s=>(s.oQ ps rs).aY o.dst .undef)++ [LS.aY ⟨st.ts,ob++st.bs⟩ o.dst (kP (foP (ps++rs)) y)]) laid (⟨cur,nc+1,[],ps.map (·.1),false⟩::pis) l s'):dz E nt B all W cur nc M vs laid pis (o::l) s':=fun {base pp g φ Fs lim tm h} hp D=>by
 subst hxs;have rt:=D.r nc st hst;obtain ⟨aa,a1,a2⟩:=rt.bF hu;obtain ⟨fv,f1,f2⟩:=rt.val hfv (by simp)
 obtain ⟨fs,cs,rfl,k1,k2⟩:∃fs cs,fv= .fn (.func f) fs cs∧VAs (Fs nc) g fs fi∧VAs (Fs nc) g cs ca:=by
  cases f2 with
  |fn _ h1 h2=>exact ⟨_,_,rfl,h1,h2⟩
 replace a2:=(k1.append a2).append k2;obtain ⟨u,h2,go,hi,g',φ',Fs',Dx,D2⟩:=D.call (d:=o.dst) (m:=cx W M o) fG hst hg hps hkb hkx a2 hrs hC hob hko hky nC fun q hq=>se q.2 (by rw[←hp];exact List.mem_map.2 ⟨q,hq,rfl⟩)
 obtain ⟨F2,g2,φ2,tm',h',r',go2⟩:=hn (by rw[List.map_cons,hp]) D2
 exact ⟨F2,g2,φ2,tm',h',r',.ZT hd (pn rt hw) hc (by rw[hf];exact f1) a1 go.cf hi go2⟩
theorem Wk.drawn {id:Nat} {ops:Array Oper} {ks:List KI} {Q:Ex→LS→Prop} (hl:dz E nt B ops.toList ops.size 0 0 0 [s] [] [] ops.toList s1) (hk:WkO E nt B .normal ks s1 Q):Wk E nt B (.region id ops true) ks s Q:=fun {F g φ tm h} r=>by
 have view:∀{j:Nat} {s':LS},[s][j]? =some s'→j=0∧s'=s:=fun {j s'} hj=>by
  cases j with
  |zero=>cases hj;exact ⟨rfl,rfl⟩
  |succ j=>simp at hj
 have D:DR B h.nx ops.size 0 0 [s] [] [] g φ (fun _=>F) (fun _=>h.nx+ops.size) tm.get ⟨h.hp,Nat.add h.nx ops.size,h.lg⟩:=by
  have hn:h.nx≤Nat.add h.nx ops.size:=Nat.le_add_right _ _;refine ⟨fun j s' hj=> ?_,fun j j' s1 s2 _ h1 h2=> ?_,fun j s' hj id o ho=>.inl (r.flt ho),fun j s' hj k b hb i hi=> ?_,fun j s' hj=>⟨Nat.le_refl _,Nat.le_refl _⟩,rfl,Nat.le_refl _,fun q _ _=>r.bd _ (Nat.le_add_right _ _),r.nx,fun q hq=>(by cases hq),fun q hq=>(by cases hq),fun q hq=>(by cases hq),fun q hq=>(by cases hq),fun q hq=>(by cases hq)⟩
  ·obtain ⟨_,rfl⟩:=view hj;exact {r with bd:=fun x hx=>r.bd x (Nat.le_trans hn hx),nx:=Nat.le_trans r.nx hn}
  ·obtain ⟨_,rfl⟩:=view h1;obtain ⟨_,rfl⟩:=view h2;exact ⟨Hle.refl _,fun k b hb=>⟨b,hb⟩⟩
  ·obtain ⟨_,rfl⟩:=view hj;exact .inl (r.lt hb i hi)
 obtain ⟨F',g',φ',tm',h',r',go⟩:=hl rfl D;exact ⟨_,_,_,.drawn go,hk r'⟩
end
section
variable {F F':Hf} {g g':Gb} {B:Bs} {φ:Nat→List Nat} {s s' s1:LS} {tm:Tf} {h:Hs} {hp:Hf} {E:Env} {nt:Nat} {all l:List Oper}
abbrev Ob:=AV×AV
def cu:List Ob→Prop
 | []=>True
 |p::l=>p.1=p.2∧cu l
def Km:List Ob→List AV
 | []=> []
 |p::l=>p.1::Km l
def IP:List Ob→List AV
 | []=> []
 |p::l=>p.2::IP l
theorem JD:∀{l:List Ob},Km l=IP l→cu l
 | [],_=>trivial
 |p::l,h=>by
  have h:p.1::Km l=p.2::IP l:=h;injection h with h1 h2
  exact ⟨h1,JD h2⟩
theorem jt:∀{l m:List Ob},cu (l++m)→cu l∧cu m
 | [],_,h=>⟨trivial,h⟩
 |p::l,m,h=>by
  obtain ⟨h1,h2⟩:=h;obtain ⟨h3,h4⟩:=jt h2;exact ⟨⟨h1,h3⟩,h4⟩
def FT (K:Nat):List (Nat×AV)→Bool
 | []=>true
 |p::l=>sel (cc K (bW p.2)) false (FT K l)
def xc (K:Nat):List (Nat×Bx)→Bool
 | []=>true
 |p::l=>sel (Nat.beq p.1 K) (xc K l) (sel (cc K p.2.keys) false (xc K l))
theorem Ds {K:Nat} {l:List Nat} (h:cc K l=false):K∉l:=fun hm=>by
 rw[(dV K l).2 hm] at h;cases h
theorem Kn {K:Nat}:∀{ts:List (Nat×AV)},FT K ts=true→∀t x,lk t ts=some x→K∉bW x
 | [],_,t,x,hx=>by cases hx
 |(k,y)::l,hf,t,x,hx=>by
  have hf:sel (cc K (bW y)) false (FT K l)=true:=hf;rw[br] at hx;rw[aC] at hf;split at hf
  ·cases hf
  ·rename_i hm;split at hx
   ·cases hx;exact Ds (by simpa using hm)
   ·exact Kn hf t x hx
theorem zj {K:Nat}:∀{bs:List (Nat×Bx)},xc K bs=true→∀k b,k≠K→lk k bs=some b→K∉b.keys
 | [],_,k,b,_,hx=>by cases hx
 |p::l,hf,k,b,hne,hx=>by
  obtain ⟨k',b'⟩:=p;have hf:sel (Nat.beq k' K) (xc K l) (sel (cc K b'.keys) false (xc K l))=true:=hf;rw[br] at hx;rw[aC] at hf;split at hf
  ·rename_i he;have he:k'=K:=(beq_iff _ _).1 he;rw[if_neg (fun e=>hne (e.trans he))] at hx
   exact zj hf k b hne hx
  ·rw[aC] at hf;split at hf
   ·cases hf
   ·rename_i hm;split at hx
    ·cases hx;exact Ds (by simpa using hm)
    ·exact zj hf k b hne hx
def jq (pks:List Nat) (s:LS) (K:Nat):Bool:=sel (cc K pks) false (sel (FT K s.ts) (xc K s.bs) false)
theorem kr {pks:List Nat} {K:Nat} (hB:BOK pks B) (hf:jq pks s K=true):s.free K∧B.pk K=false:=by
 unfold jq at hf;rw[aC] at hf;split at hf
 ·cases hf
 ·rename_i h1;rw[aC] at hf;split at hf
  ·rename_i h2;exact ⟨⟨Kn h2,zj hf⟩,hB K (by simpa using h1)⟩
  ·cases hf
def QO (i:TI) (ok:Bool):Option AV:=sel ok (ai (gy i (eg i.zero) 0) fun z=>some (.tup [z,.bool false])) none
def xn (t:TypeId) (i:TI) (ok:Bool) (x:AV):Option AV:=
 match x with
 | .ifc t2 u=>sel (Nat.beq t2 t) (some (okM ok u true)) (QO i ok)
 | .cg=>QO i ok
 |_=>none
theorem Om {i:TI} {ok:Bool} {x:AV} (h:QO i ok=some x):∃u,ua i ok=some u∧VA F g u x:=by
 obtain ⟨h1,h⟩:=av h;subst h1;obtain ⟨z,hz,h⟩:=af h;cases h;obtain ⟨u,u1,u2⟩:=jU (jw (F:=F) (g:=g) i.zero) hz;exact ⟨.tup [u,.bool false],by show ai (cO i i.zero 0) (fun z=>some (SV.tup [z,.bool false]))=_;rw[u1];rfl,.tup (.cons u2 (.cons (.bool false) .nil))⟩
theorem Xw {t:TypeId} {i:TI} {ok:Bool} {v:SV} {x y:AV} (hv:VA F g v x) (h:xn t i ok x=some y):∃u,asserted v t i ok=some u∧VA F g u y:=by
 unfold xn at h;split at h
 ·rename_i t2 u;cases hv with
  | @ifc _ _ v' _ hv=>
  rw[aC] at h;split at h
  ·rename_i he;cases h;refine ⟨okV ok v' true,?_,Jz hv⟩;show sel (Nat.beq t2 t) (some (okV ok v' true)) (ua i ok)=_;rw[he]
  ·rename_i he;obtain ⟨w,w1,w2⟩:=Om (F:=F) (g:=g) h;refine ⟨w,?_,w2⟩;show sel (Nat.beq t2 t) (some (okV ok v' true)) (ua i ok)=_;cases hb:Nat.beq t2 t with
   |true=>exact absurd hb he
   |false=>exact w1
 ·cases hv;exact Om h
 ·cases h
theorem Wr {a:Operand} {xt t:TypeId} {ok:Bool} {i:TI} {x y:AV} (hi:E.ty.get t=some i) (hd:ny i.desc=false) (ha:aJ s.ts a=x) (hx:xn t i ok x=some y):aP E B (.typeAssert a xt t ok) s s y none:=aP.un (f:=fun _=>pS E t ok) (fun _ _ _=>rfl) ha (fun e=>by subst e;cases hx) fun {F g φ tm h v} r hv=>by
 obtain ⟨u,u1,u2⟩:=Xw hv hx;refine ⟨u,?_,u2⟩;show ai (E.ty.get t) (fun i=>sel (ny i.desc) none (same (asserted v t i ok)))=_
 rw[hi];show sel (ny i.desc) none (same (asserted v t i ok))=_;rw[hd,u1];rfl
def arrE:UD→Option (Nat×TypeId)
 | .array n e=>some (n,e)
 |_=>none
theorem Xx {d:UD} {q:Nat×TypeId} (h:arrE d=some q):d= .array q.1 q.2:=by
 cases d<;>first|(cases h;done)|(cases h;rfl)
def JZ (E:Env) (t:TypeId) (x y:AV):Option AV:=
 match x,y with
 | .agg cs,.int _ (.ofNat k)=>ai (E.ty.get t) fun i=>ai (arrE i.desc) fun q=>ai (E.ty.get q.2) fun ie=>sel (Nat.ble (Nat.succ k) q.1) (gy ie cs (Nat.mul k ie.size)) none
 |_,_=>none
theorem MR {t:TypeId} {a ix:Operand} {x y z:AV} (ha:aJ s.ts a=x) (hix:aJ s.ts ix=y) (hx:JZ E t x y=some z):aP E B (.index t a ix) s s z none:=by
 unfold JZ at hx;split at hx
 ·rename_i cs kk k;obtain ⟨i,hi,hx⟩:=af hx;obtain ⟨q,hq,hx⟩:=af hx;obtain ⟨ie,hie,hx⟩:=af hx;obtain ⟨hk,hx⟩:=av hx;refine aP.bi (f:=fun _ v u=>ai (eX u) fun k=>jV E t k v) (fun _ _ _=>rfl) ha (by simp) hix (by simp) fun {F g φ tm h v w} r hv hw=> ?_
  cases hv with
  |agg hv=>
  cases hw;obtain ⟨u,u1,u2⟩:=jU hv hx;refine ⟨u,?_,u2⟩;show jV E t k _=_;unfold jV;rw[cW hi,Xx hq];show aF (some _) (E.ty.get q.2) (fun cs ie=>sel (Nat.ble (Nat.succ k) q.1) (same (cO ie cs (Nat.mul k ie.size))) none)=_
  rw[m7 rfl hie,hk,u1];rfl
 ·cases hx
abbrev Res:=LS×AV×WK×List Ob
def eE (E:Env) (B:Bs) (op:Op) (s:LS) (r:Res):Prop:=cu r.2.2.2→aP E B op s r.1 r.2.1 r.2.2.1
def ndf (x:AV):Option AV:=sel (pE x) none (some x)
theorem mP {x y:AV} (h:ndf x=some y):x=y∧x≠ .undef:=by
 unfold ndf at h;cases hx:pE x with
 |true=>rw[hx] at h;cases h
 |false=>rw[hx] at h;cases h;exact ⟨rfl,AO hx⟩
def Jg (E:Env) (s:LS) (op:Op):Option AV:=
 match op with
 | .move a=>ndf (aJ s.ts a)
 | .assign a=>ndf (aJ s.ts a)
 | .pick c a b=>(match aJ s.ts c with| .bool t=>ndf (aJ s.ts (sel t a b))|_=>none)
 | .nilCheck a=>sel (acz (aJ s.ts a)) (some (aJ s.ts a)) none
 | .load t a=>ai (E.ty.get t) fun i=>FH i s.bs (aJ s.ts a)
 | .fieldAddr t a f=>ai (sT E t f) fun p=>Xd p (aJ s.ts a)
 | .field t a f=>ai (sT E t f) fun p=>(match aJ s.ts a with| .agg cs=>gy p.2 cs p.1|_=>none)
 | .extract a i=>(match aJ s.ts a with| .tup xs=>xs[i]? |_=>none)
 | .binOp op t a b _=>ai (ndf (aJ s.ts b)) fun y=>Rx E op t a b (aJ s.ts a) y
 | .unOp op _ a=>unL op (aJ s.ts a)
 | .convert src dst a=>aF (E.ty.get src) (E.ty.get dst) fun _ i2=>F7 i2.desc (aJ s.ts a)
 | .makeInterface t a=>ai (E.ty.get t) fun i=>sel (ny i.desc) none (ai (ndf (aJ s.ts a)) fun x=>some (.ifc t x))
 | .makeFunc (.func f) a c=>sel (eR (fQ s.ts a.toList)) (sel (eR (fQ s.ts c.toList)) (some (.fn f (fQ s.ts a.toList) (fQ s.ts c.toList))) none) none
 | .build t parts=>aF (E.ty.get t) (sH s.ts parts.toList) fun i m=>ai (KU E (eg i.zero) m i.desc) fun ys=>some (.agg ys)
 | .index t a ix=>JZ E t (aJ s.ts a) (aJ s.ts ix)
 | .typeAssert a _ t ok=>ai (E.ty.get t) fun i=>sel (ny i.desc) none (xn t i ok (aJ s.ts a))
 |_=>none
theorem Vf {op:Op} {x:AV} (hx:Jg E s op=some x):aP E B op s s x none:=by
 unfold Jg at hx;split at hx
 ·obtain ⟨h1,h2⟩:=mP hx;subst h1;exact adP rfl h2
 ·obtain ⟨h1,h2⟩:=mP hx;subst h1;exact Wq rfl h2
 ·split at hx
  ·rename_i hc;obtain ⟨h1,h2⟩:=mP hx;subst h1;exact adN hc rfl h2
  ·cases hx
 ·obtain ⟨h1,hx⟩:=av hx;cases hx;exact MM rfl h1
 ·obtain ⟨i,hi,hx⟩:=af hx;exact adQ hi rfl hx
 ·obtain ⟨i,hi,hx⟩:=af hx;exact Jy hi rfl hx
 ·obtain ⟨i,hi,hx⟩:=af hx;split at hx
  ·rename_i ha;exact YB hi ha hx
  ·cases hx
 ·split at hx
  ·rename_i ha;exact PD ha hx
  ·cases hx
 ·obtain ⟨y,hy,hx⟩:=af hx;obtain ⟨h1,h2⟩:=mP hy;subst h1;exact afx rfl rfl h2 hx
 ·exact ahB rfl hx
 ·obtain ⟨i,i2,h1,h2,hx⟩:=ay hx;exact adT h1 h2 rfl hx
 ·obtain ⟨i,hi,hx⟩:=af hx;rw[aC] at hx;split at hx
  ·cases hx
  ·rename_i hd;obtain ⟨y,hy,hx⟩:=af hx;obtain ⟨h1,h2⟩:=mP hy;subst h1;cases hx;exact aft hi (by simpa using hd) rfl h2
 ·obtain ⟨h1,hx⟩:=av hx;obtain ⟨h2,hx⟩:=av hx;cases hx;exact adR rfl h1 rfl h2
 ·obtain ⟨i,m,h1,h2,hx⟩:=ay hx;obtain ⟨ys,h3,hx⟩:=af hx;cases hx;exact YC h1 h2 h3
 ·exact MR rfl rfl hx
 ·obtain ⟨i,hi,hx⟩:=af hx;rw[aC] at hx;split at hx
  ·cases hx
  ·rename_i hd;exact Wr hi (by simpa using hd) rfl hx
 ·cases hx
def vp (E:Env) (s:LS) (K:Nat) (op:Op):Option (Bx×AV):=
 match op with
 | .box e a=>ai (jR (aJ s.ts a)) fun xs=>sel (cc K (cI xs)) none (some (.flat e xs,.loc K 0))
 | .alloc e=>ai (E.ty.get e) fun i=>some (.flat e (eg i.zero),.loc K 0)
 | .buildSlice t len parts=>aF (fU E t) (sH s.ts parts.toList) fun p m=>sel (da p.2&&Nat.ble (Nat.mul len p.2.size) 16777216) (ai (tZ (jh p.2.size) (tA (eg p.2.zero) len) m) fun ys=>sel (cI ys).isEmpty (some (.rows false p.1 p.2.size (mw p.2.size len ys),.ms K p.2.size 0 len)) none) none
 | .makeMap _ none=>some (.map [],.mp K)
 | .range t a=>ai (E.ty.get t) fun i=>sel (nQ i.desc) (match aJ s.ts a with| .str b=>some (.iter b 0,.it K)|_=>none) none
 |_=>none
theorem EC {op:Op} {K:Nat} {p:Bx×AV} (hk:s.free K) (hp:B.pk K=false) (hx:vp E s K op=some p):aP E B op s (s.set K p.1) p.2 (some (K,true)):=by
 unfold vp at hx;split at hx
 ·obtain ⟨xs,h1,hx⟩:=af hx;rw[aC] at hx;split at hx
  ·cases hx
  ·rename_i hm;cases hx;exact afw rfl h1 hk hp (Ds (by simpa using hm))
 ·obtain ⟨i,h1,hx⟩:=af hx;cases hx;exact YD h1 hk hp
 ·obtain ⟨q,m,h1,h2,hx⟩:=ay hx;obtain ⟨h3,hx⟩:=av hx;obtain ⟨ys,h4,hx⟩:=af hx;obtain ⟨h5,hx⟩:=av hx;cases hx;exact Fh h1 h3 h2 h4 hk hp h5
 ·cases hx;exact PA hk hp
 ·obtain ⟨i,h1,hx⟩:=af hx;obtain ⟨h2,hx⟩:=av hx;split at hx
  ·rename_i ha;cases hx;exact Yz h1 h2 ha hk hp
  ·cases hx
 ·cases hx
def Jf (E:Env) (s:LS) (op:Op):Option (Nat×Bx):=
 match op with
 | .store t a c=>ai (E.ty.get t) fun i=>(match aJ s.ts a with
  | .loc K off=>ai (jR (aJ s.ts c)) fun xs=>(match lk K s.bs with
   |some (.flat e cs)=>sel (Nat.beq xs.length i.size&&Nat.ble (Nat.add off xs.length) cs.length) (some (K,.flat e (bZ cs off xs))) none
   |_=>none)
  |_=>none)
 |_=>none
theorem Ve {op:Op} {p:Nat×Bx} (hx:Jf E s op=some p):aP E B op s (s.set p.1 p.2) (.tup []) (some (p.1,false)):=by
 unfold Jf at hx;split at hx
 ·obtain ⟨i,h1,hx⟩:=af hx;split at hx
  ·rename_i ha;obtain ⟨xs,h2,hx⟩:=af hx;split at hx
   ·rename_i hb;obtain ⟨h3,hx⟩:=av hx;cases hx;exact Yy h1 ha rfl h2 hb h3
   ·cases hx
  ·cases hx
 ·cases hx
def Je (E:Env) (s:LS) (op:Op):Option AV:=
 match op with
 | .call c=>(match c.callee with
  | .builtin .len=>(match c.args.toList,c.argTypes.toList with
   | [a],[t]=>ai (E.ty.get t) fun i=>ai (PV s.bs i.desc (aJ s.ts a)) fun n=>some (.int .i64 n)
   |_,_=>none)
  | .builtin .min=>(match c.args.toList with
   | [a,b]=>YJ false (aJ s.ts a) (aJ s.ts b)
   |_=>none)
  | .builtin .max=>(match c.args.toList with
   | [a,b]=>YJ true (aJ s.ts a) (aJ s.ts b)
   |_=>none)
  |_=>none)
 |_=>none
theorem Vd {op:Op} {x:AV} (hx:Je E s op=some x):aP E B op s s x none:=by
 unfold Je at hx;split at hx
 ·split at hx
  ·rename_i iU;split at hx
   ·rename_i ha ht;obtain ⟨i,h1,hx⟩:=af hx;obtain ⟨n,h2,hx⟩:=af hx;cases hx;exact afs iU ha ht h1 rfl h2
   ·cases hx
  ·rename_i iU;split at hx
   ·rename_i ha;exact Wo (mx:=false) iU ha rfl rfl hx
   ·cases hx
  ·rename_i iU;split at hx
   ·rename_i ha;exact Wo (mx:=true) iU ha rfl rfl hx
   ·cases hx
  ·cases hx
 ·cases hx
def vo (E:Env) (s:LS) (op:Op):Option Res:=
 match op with
 | .load t a=>ai (E.ty.get t) fun i=>sel (eU i.desc) none (match aJ s.ts a with
  | .el K sz j f=>(match lk K s.bs with
   |some (.hole _ sz' _ i0 x)=>sel (Nat.beq sz' sz) (some (s,x,none,[(.loc 0 (Nat.add (Nat.mul j sz) f),.loc 0 i0)])) none
   |_=>none)
  |_=>none)
 |_=>none
theorem Vc {op:Op} {r:Res} (hr:vo E s op=some r):eE E B op s r:=by
 intro ho;unfold vo at hr;split at hr
 ·obtain ⟨i,h1,hr⟩:=af hr;rw[aC] at hr;split at hr
  ·cases hr
  ·rename_i hg;split at hr
   ·rename_i ha;split at hr
    ·rename_i hb;obtain ⟨h2,hr⟩:=av hr;cases hr;have e1:=(beq_iff _ _).1 h2;have e2:=ho.1;injection e2 with _ e2
     subst e1;subst e2;exact MO h1 (by simpa using hg) ha hb
    ·cases hr
   ·cases hr
 ·cases hr
def nM (E:Env) (pks:List Nat) (s:LS) (op:Op) (d:Option Nat):Option Res:=
 match Jg E s op with
 |some x=>some (s,x,none,[])
 |none=>(match Jf E s op with
  |some p=>some (s.set p.1 p.2,.tup [],some (p.1,false),[])
  |none=>(match Je E s op with
   |some x=>some (s,x,none,[])
   |none=>(match d with
    |some K=>(match vo E s op with
     |some r=>some r
     |none=>sel (jq pks s K) (ai (vp E s K op) fun p=>some (s.set K p.1,p.2,some (K,true),[])) none)
    |none=>none)))
theorem qP {pks:List Nat} {op:Op} {d:Option Nat} {r:Res} (hB:BOK pks B) (hr:nM E pks s op d=some r):eE E B op s r:=by
 intro ho;unfold nM at hr;split at hr
 ·rename_i h1;cases hr;exact Vf h1
 ·split at hr
  ·rename_i h1;cases hr;exact Ve h1
  ·split at hr
   ·rename_i h1;cases hr;exact Vd h1
   ·split at hr
    ·split at hr
     ·rename_i h1;cases hr;exact Vc h1 ho
     ·obtain ⟨h1,hr⟩:=av hr;obtain ⟨p,h2,hr⟩:=af hr;cases hr;obtain ⟨a,b⟩:=kr hB h1;exact EC a b h2
    ·cases hr
end
section
variable {F F':Hf} {g g':Gb} {B:Bs} {φ:Nat→List Nat} {s s' s1:LS} {tm:Tf} {h:Hs} {hp:Hf} {E:Env} {nt:Nat} {all l:List Oper}
def obI (a b:Int):Ob:=(.int .i64 a,.int .i64 b)
def obN (a b:Nat):Ob:=(.ms 0 0 0 a,.ms 0 0 0 b)
def obR (a b:List (List AV)):Ob:=(.slice 0 0 a,.slice 0 0 b)
def obS (a b:ByteArray):Ob:=(.str a,.str b)
def obM (a b:List (AV×AV)):List Ob:= [(.agg (a.map (·.1)),.agg (b.map (·.1))),(.agg (a.map (·.2)),.agg (b.map (·.2)))]
theorem jP {a b:Int} (h:(obI a b).1=(obI a b).2):a=b:=by unfold obI at h;simpa using h
theorem eI {a b:Nat} (h:(obN a b).1=(obN a b).2):a=b:=by unfold obN at h;simpa using h
theorem eQ {a b:List (List AV)} (h:(obR a b).1=(obR a b).2):a=b:=by unfold obR at h;simpa using h
theorem vr {a b:ByteArray} (h:(obS a b).1=(obS a b).2):a=b:=by unfold obS at h;simpa using h
theorem yO:∀{a b:List (AV×AV)},a.map (·.1)=b.map (·.1)→a.map (·.2)=b.map (·.2)→a=b
 | [],[],_,_=>rfl
 | [],_::_,h,_=>by cases h
 |_::_,[],h,_=>by cases h
 |(x,y)::a,(x',y')::b,h1,h2=>by
  rw[List.map_cons,List.map_cons,List.cons.injEq] at h1 h2;obtain ⟨h3,h4⟩:=h1;obtain ⟨h5,h6⟩:=h2;have h3:x=x':=h3;have h5:y=y':=h5;rw[h3,h5,yO h4 h6]
theorem Wt {a b:List (AV×AV)} {l:List Ob} (h:cu (obM a b++l)):a=b∧cu l:=by
 obtain ⟨h1,h2,h3⟩:=h;have h1:AV.agg (a.map (·.1))=AV.agg (b.map (·.1)):=h1
 have h2:AV.agg (a.map (·.2))=AV.agg (b.map (·.2)):=h2
 exact ⟨yO (by simpa using h1) (by simpa using h2),h3⟩
inductive Sr:List (List AV)→Type
 |dat {R:List (List AV)}:Sr R
 |box {Q R:List (List AV)} {lo n:Nat} (h:(Q.drop lo).take n=R) (hn:lo+n≤Q.length):Sr R
def C6 (s:LS) (sz:Nat) (y:AV) {R:List (List AV)} (sr:Sr R):Option (List Ob):=
 match sr with
 | .dat=>(match y with
  | .aR=>some [obR [] R]
  |y=>ai (kZ y) fun q=>sel (Nat.beq q.2.1 sz) (some [obR q.2.2 R]) none)
 | @Sr.box Q _ lo n _ _=>(match y with
  | .ms K sz' lo' n'=>(match lk K s.bs with
   |some (.rows _ _ X6 Q')=>sel (Nat.beq sz' sz&&Nat.beq X6 sz) (some [obR Q' Q,obN lo' lo,obN n' n]) none
   |_=>none)
  |_=>none)
theorem sy {sz:Nat} {y:AV} {R:List (List AV)} {sr:Sr R} {obs:List Ob} (h:C6 s sz y sr=some obs) (ho:cu obs):nH s sz y R:=by
 unfold C6 at h;cases sr with
 |dat=>
  dsimp only at h;split at h
  ·cases h;have:=eQ ho.1;subst this;exact adC
  ·obtain ⟨⟨e,sz',R'⟩,h1,h⟩:=af h;obtain ⟨h2,h⟩:=av h;cases h;have e1:R'=R:=eQ ho.1;have e2:sz'=sz:=(beq_iff _ _).1 h2;subst e1;subst e2;exact Yb h1
 | @box Q _ lo n hR hn=>
  dsimp only at h;split at h
  ·rename_i K sz' lo' n';split at h
   ·rename_i z e X6 Q' hb;obtain ⟨h2,h⟩:=av h;cases h;obtain ⟨o1,o2,o3,_⟩:=ho;have e1:=eQ o1;have e2:=eI o2;have e3:=eI o3;rw[Bool.and_eq_true] at h2;have e4:sz'=sz:=(beq_iff _ _).1 h2.1;have e5:X6=sz:=(beq_iff _ _).1 h2.2;subst e1;subst e2;subst e3;subst e4;subst e5;exact adD hb hR hn
   ·cases h
  ·cases h
def Qc (E:Env) (s:LS) (rows:List (List AV)) (n:Int) (R:List AV) (op:Op):Option Res:=
 match op with
 | .indexAddr t a ix=>aF (elemOf E t) (kZ (aJ s.ts a)) fun ie q=>(match aJ s.ts ix with
  | .int _ n'=>sel (Nat.beq ie.size q.2.1) (some (s,.imm R,none,[obR q.2.2 rows,obI n' n])) none
  |_=>none)
 |_=>none
theorem Y3 {rows:List (List AV)} {n:Int} {R:List AV} {op:Op} {r:Res} (hR:kX rows n=some R) (h:Qc E s rows n R op=some r):eE E B op s r:=by
 unfold Qc at h;split at h
 ·obtain ⟨ie,⟨e,sz,rows'⟩,h1,h2,h⟩:=ay h;split at h
  ·rename_i hix;obtain ⟨h3,h⟩:=av h;cases h;intro ho;obtain ⟨o1,o2,_⟩:=ho;have e1:rows'=rows:=eQ o1;have e2:=jP o2;subst e1;subst e2;exact YA h1 ((beq_iff _ _).1 h3) rfl h2 hix hR
  ·cases h
 ·cases h
def Qd (E:Env) (s:LS) (n k:Nat) (m:Int) (op:Op):Option Res:=
 match op with
 | .indexAddr t a ix=>ai (elemOf E t) fun ie=>(match aJ s.ts a,aJ s.ts ix with
  | .ms K sz lo n',.int _ m'=>sel (Nat.beq ie.size sz) (some (s,.el K sz (Nat.add lo k) 0,none,[obN n' n,obI m' m])) none
  |_,_=>none)
 |_=>none
theorem Y4 {n k:Nat} {m:Int} {op:Op} {r:Res} (hm:m=(k:Int)) (hk:k<n) (h:Qd E s n k m op=some r):eE E B op s r:=by
 unfold Qd at h;split at h
 ·obtain ⟨ie,h1,h⟩:=af h;split at h
  ·rename_i ha hix;obtain ⟨h3,h⟩:=av h;cases h;intro ho;obtain ⟨o1,o2,_⟩:=ho;have e1:=eI o1;have e2:=jP o2;subst e1;subst e2;exact MQ h1 ((beq_iff _ _).1 h3) ha hix hm hk
  ·cases h
 ·cases h
def P9 (E:Env) (s:LS) (Q:List (List AV)) (j:Nat) (R:List AV) (op:Op):Option Res:=
 match op with
 | .load t a=>ai (E.ty.get t) fun i=>(match aJ s.ts a with
  | .el K sz j' f=>(match lk K s.bs with
   |some (.rows _ _ sz' Q')=>sel (Nat.beq sz sz'&&Nat.ble (Nat.add f i.size) sz) (ai (gy i ((R.drop f).take i.size) 0) fun x=>sel (bW x).isEmpty (some (s,x,none,[obR Q' Q,obN j' j])) none) none
   |some (.hole _ sz' Q' _ _)=>sel (Nat.beq sz sz'&&Nat.ble (Nat.add f i.size) sz) (ai (gy i ((R.drop f).take i.size) 0) fun x=>sel (bW x).isEmpty (some (s,x,none,[obR Q' Q,obN j' j])) none) none
   |_=>none)
  |_=>none)
 |_=>none
theorem YY {Q:List (List AV)} {j:Nat} {R:List AV} {op:Op} {r:Res} (hj:Q[j]? =some R) (h:P9 E s Q j R op=some r):eE E B op s r:=by
 unfold P9 at h;split at h
 ·obtain ⟨i,h1,h⟩:=af h;split at h
  ·rename_i K sz j' f ha;split at h
   ·rename_i z e sz' Q' hb;obtain ⟨h2,h⟩:=av h;obtain ⟨x,h3,h⟩:=af h;obtain ⟨h4,h⟩:=av h;cases h;intro ho;obtain ⟨o1,o2,_⟩:=ho;have e1:Q'=Q:=eQ o1;have e2:=eI o2;rw[Bool.and_eq_true] at h2;have e3:sz=sz':=(beq_iff _ _).1 h2.1;subst e1;subst e2;subst e3;exact PC h1 ha hb hj h2.2 h3 h4
   ·rename_i e sz' Q' i0 x0 hb;obtain ⟨h2,h⟩:=av h;obtain ⟨x,h3,h⟩:=af h;obtain ⟨h4,h⟩:=av h;cases h;intro ho;obtain ⟨o1,o2,_⟩:=ho;have e1:Q'=Q:=eQ o1;have e2:=eI o2;rw[Bool.and_eq_true] at h2;have e3:sz=sz':=(beq_iff _ _).1 h2.1;subst e1;subst e2;subst e3;exact MN h1 ha hb hj h2.2 h3 h4
   ·cases h
  ·cases h
 ·cases h
def P8 (E:Env) (s:LS) (Q:List (List AV)) (j:Nat) (f:Nat) (xs:List AV) (Q':List (List AV)) (op:Op):Option Res:=
 match op with
 | .store t a c=>aF (E.ty.get t) (jR (aJ s.ts c)) fun i xs'=>(match aJ s.ts a with
  | .el K sz j' f'=>(match lk K s.bs with
   |some (.rows z e sz' Q0)=>sel (Nat.beq sz sz'&&(Nat.beq f' f&&((cI xs').isEmpty&&(Nat.beq xs'.length i.size&&Nat.ble (Nat.add f xs'.length) sz)))) (some (s.set K (.rows z e sz Q'),.tup [],some (K,false),[obR Q0 Q,obN j' j,(.agg xs',.agg xs)])) none
   |_=>none)
  |_=>none)
 |_=>none
theorem YX {Q:List (List AV)} {j:Nat} {R:List AV} {f:Nat} {xs:List AV} {Q':List (List AV)} {op:Op} {r:Res} (hj:Q[j]? =some R) (hQ':Q.set j (bZ R f xs)=Q') (h:P8 E s Q j f xs Q' op=some r):eE E B op s r:=by
 subst hQ';unfold P8 at h;split at h
 ·obtain ⟨i,xs',h1,hx,h⟩:=ay h;split at h
  ·rename_i K sz j' f' ha;split at h
   ·rename_i z e sz' Q0 hb;obtain ⟨h2,h⟩:=av h;cases h;intro ho;obtain ⟨o1,o2,o3,_⟩:=ho;have e1:Q0=Q:=eQ o1;have e2:=eI o2;have e4:xs'=xs:=by have o3:AV.agg xs'= .agg xs:=o3;simpa using o3
    simp only[Bool.and_eq_true] at h2;obtain ⟨k1,k2,k3,k4⟩:=h2;have e3:sz=sz':=(beq_iff _ _).1 k1;have e5:f'=f:=(beq_iff _ _).1 k2;subst e1;subst e2;subst e3;subst e4;subst e5;exact MK h1 ha rfl hx k3 hb hj (by rw[Bool.and_eq_true];exact k4)
   ·cases h
  ·cases h
 ·cases h
def Qf (E:Env) (s:LS) (Q:List (List AV)) (j f:Nat) (Q':List (List AV)) (op:Op):Option Res:=
 match op with
 | .store t a c=>ai (E.ty.get t) fun i=>(match aJ s.ts a,jR (aJ s.ts c) with
  | .el K sz j' f',some [x]=>(match lk K s.bs with
   |some (.rows z e sz' Q0)=>sel (Nat.beq sz sz'&&(Nat.beq f' f&&(Nat.beq 1 i.size&&Nat.ble (Nat.add f 1) sz))) (some (s.set K (.hole e sz Q' (Nat.add (Nat.mul j sz) f) x),.tup [],some (K,false),[obR Q0 Q,obN j' j])) none
   |_=>none)
  |_,_=>none)
 |_=>none
theorem Y6 {Q:List (List AV)} {j:Nat} {R:List AV} {f:Nat} {Q':List (List AV)} {op:Op} {r:Res} (hj:Q[j]? =some R) (hQ':Q.set j (bZ R f [.undef])=Q') (h:Qf E s Q j f Q' op=some r):eE E B op s r:=by
 subst hQ';unfold Qf at h;split at h
 ·obtain ⟨i,h1,h⟩:=af h;split at h
  ·rename_i K sz j' f' x ha hx;split at h
   ·rename_i z e sz' Q0 hb;obtain ⟨h2,h⟩:=av h;cases h;intro ho;obtain ⟨o1,o2,_⟩:=ho;have e1:Q0=Q:=eQ o1;have e2:=eI o2;simp only[Bool.and_eq_true] at h2;obtain ⟨k1,k2,k3,k4⟩:=h2;have e3:sz=sz':=(beq_iff _ _).1 k1;have e5:f'=f:=(beq_iff _ _).1 k2;subst e1;subst e2;subst e3;subst e5;exact Jw h1 ha rfl hx hb hj (by rw[Bool.and_eq_true];exact ⟨k3,k4⟩)
   ·cases h
  ·cases h
 ·cases h
def Qe (E:Env) (s:LS) (Q:List (List AV)) (j f:Nat) (op:Op):Option Res:=
 match op with
 | .store t a c=>ai (E.ty.get t) fun i=>(match aJ s.ts a,jR (aJ s.ts c) with
  | .el K sz j' f',some [x]=>(match lk K s.bs with
   |some (.hole e sz' Q0 i0 x0)=>sel (Nat.beq sz sz'&&(Nat.beq f' f&&Nat.beq 1 i.size)) (some (s.set K (.hole e sz Q (Nat.add (Nat.mul j sz) f) x),.tup [],some (K,false),[obR Q0 Q,obN j' j,obN i0 (Nat.add (Nat.mul j sz) f),obN sz 1,obN f 0])) none
   |_=>none)
  |_,_=>none)
 |_=>none
theorem Y5 {Q:List (List AV)} {j f:Nat} {op:Op} {r:Res} (hu:Q.flatten[j]? =some .undef) (h:Qe E s Q j f op=some r):eE E B op s r:=by
 unfold Qe at h;split at h
 ·obtain ⟨i,h1,h⟩:=af h;split at h
  ·rename_i K sz j' f' x ha hx;split at h
   ·rename_i e sz' Q0 i0 x0 hb;obtain ⟨h2,h⟩:=av h;cases h;intro ho;obtain ⟨o1,o2,o3,o4,o5,_⟩:=ho;have e1:Q0=Q:=eQ o1;have e2:=eI o2;have e0:=eI o3;have e6:=eI o4;have e7:=eI o5;simp only[Bool.and_eq_true] at h2;obtain ⟨k1,k2,k3⟩:=h2;have e3:sz=sz':=(beq_iff _ _).1 k1;have e5:f'=f:=(beq_iff _ _).1 k2;subst e1;subst e2;subst e3;subst e5;subst e0;subst e6;subst e7;exact Fg h1 ha rfl hx hb (by simpa using hu) k3
   ·cases h
  ·cases h
 ·cases h
def Qj (E:Env) (s:LS) (b:ByteArray) (n:Int) (c:UInt8) (op:Op):Option Res:=
 match op with
 | .index t a ix=>ai (E.ty.get t) fun i=>(match aJ s.ts a,aJ s.ts ix with
  | .str b',.int _ n'=>sel (nQ i.desc) (some (s,.int .u8 (c.toNat:Int),none,[obS b' b,obI n' n])) none
  |_,_=>none)
 |_=>none
theorem Za {b:ByteArray} {n:Int} {c:UInt8} {op:Op} {r:Res} (hc:kX b.data.toList n=some c) (h:Qj E s b n c op=some r):eE E B op s r:=by
 unfold Qj at h;split at h
 ·obtain ⟨i,h1,h⟩:=af h;split at h
  ·rename_i ha hix;obtain ⟨h3,h⟩:=av h;cases h;intro ho;obtain ⟨o1,o2,_⟩:=ho;have e1:=vr o1;have e2:=jP o2;subst e1;subst e2;exact MP h1 h3 ha hix hc
  ·cases h
 ·cases h
def YZ (s:LS) (n:Int) (op:Op):Option Res:=
 match op with
 | .binOp op t a b t2=>(match aJ s.ts a,aJ s.ts b with
  | .int k m,.int k' n'=>sel (bV k k') (ai (divL op k m n) fun x=>some (s,x,none,[obI n' n])) none
  |_,_=>none)
 |_=>none
theorem aed {n:Int} {op:Op} {r:Res} (hn:n≠0) (h:YZ s n op=some r):eE E B op s r:=by
 unfold YZ at h;split at h
 ·split at h
  ·rename_i ha hb;obtain ⟨h3,h⟩:=av h;obtain ⟨x,h4,h⟩:=af h;cases h;intro ho;have e1:=jP ho.1;subst e1;exact afu ha hb h3 hn h4
  ·cases h
 ·cases h
def Qk (s:LS) (x y:ByteArray) (op:Op):Option Res:=
 match op with
 | .binOp .add t a b t2=>(match aJ s.ts a,aJ s.ts b with
  | .str x',.str y'=>some (s,.str (x++y),none,[obS x' x,obS y' y])
  |_,_=>none)
 |_=>none
theorem Zb {x y:ByteArray} {op:Op} {r:Res} (hn:x.size+y.size≤1000000) (h:Qk s x y op=some r):eE E B op s r:=by
 unfold Qk at h;split at h
 ·split at h
  ·rename_i ha hb;cases h;intro ho;obtain ⟨o1,o2,_⟩:=ho;have e1:=vr o1;have e2:=vr o2;subst e1;subst e2;exact afv ha hb hn
  ·cases h
 ·cases h
def Y1 (E:Env) (pks:List Nat) (s:LS) (n1 n2:Int) (l:Nat) (x:List AV) (Q':List (List AV)) (op:Op) (d:Option Nat):Option Res:=
 match op,d with
 | .makeSlice t a c,some K=>ai (fU E t) fun p=>(match aJ s.ts a,aJ s.ts c with
  | .int _ n1',.int _ n2'=>sel (da p.2&&((cI (eg p.2.zero)).isEmpty&&jq pks s K)) (some (s.set K (.rows false p.1 p.2.size Q'),.ms K p.2.size 0 l,some (K,true),[obI n1' n1,obI n2' n2,(.agg (eg p.2.zero),.agg x)])) none
  |_,_=>none)
 |_,_=>none
def Qh (E:Env) (s:LS) (rows:List (List AV)) (lo hi:Int) (R:List (List AV)) (op:Op):Option Res:=
 match op with
 | .slice t a o1 o2 none=>aF (fU E t) (kZ (aJ s.ts a)) fun p q=>aF (mz s.ts o1) (mz s.ts o2) fun b1 b2=>sel (Nat.beq q.1 p.1&&Nat.beq q.2.1 p.2.size) (some (s,zr (aJ s.ts a) o1 p.1 p.2.size R,none,[obR q.2.2 rows,obI (b1.getD 0) lo,obI (b2.getD (q.2.2.length:Nat)) hi])) none
 |_=>none
theorem Y8 {rows R:List (List AV)} {lo hi:Int} {l u:Nat} {op:Op} {r:Res} (h1:lo=(l:Int)) (h2:hi=(u:Int)) (hlu:l≤u) (hum:u≤rows.length) (hR:(rows.drop l).take (u-l)=R) (h:Qh E s rows lo hi R op=some r):eE E B op s r:=by
 unfold Qh at h;split at h
 ·obtain ⟨p,⟨e,sz,rows'⟩,h3,h4,h⟩:=ay h;obtain ⟨b1,b2,h5,h6,h⟩:=ay h;obtain ⟨h7,h⟩:=av h;cases h;intro ho;obtain ⟨o1,o2,o3,_⟩:=ho;have e1:rows'=rows:=eQ o1;have e2:=jP o2;have e3:=jP o3;rw[Bool.and_eq_true] at h7;have e4:e=p.1:=(beq_iff _ _).1 h7.1;have e5:sz=p.2.size:=(beq_iff _ _).1 h7.2;subst e1;subst e4;subst e5;exact ok_slice h3 rfl h4 h5 h6 (e2.trans h1) (e3.trans h2) hlu hum hR
 ·cases h
def JT (E:Env) (s:LS) (rows:List (List AV)) (hi mx:Int) (R:List (List AV)) (op:Op):Option Res:=
 match op with
 | .slice t a none (some o2) (some o3)=>aF (fU E t) (F6 (aJ s.ts a)) fun p q=>aF (mz s.ts (some o2)) (mz s.ts (some o3)) fun b2 b3=>aF b2 b3 fun n2 n3=>sel (Nat.beq q.1 p.1&&Nat.beq q.2.1 p.2.size) (some (s,.slf p.1 p.2.size R,none,[obR q.2.2 rows,obI n2 hi,obI n3 mx])) none
 |_=>none
theorem WY {rows R:List (List AV)} {hi mx:Int} {u:Nat} {op:Op} {r:Res} (h2:hi=(u:Int)) (h3:mx=(u:Int)) (hum:u≤rows.length) (hR:rows.take u=R) (h:JT E s rows hi mx R op=some r):eE E B op s r:=by
 unfold JT at h;split at h
 ·obtain ⟨p,⟨e,sz,rows'⟩,h4,h5,h⟩:=ay h;obtain ⟨b2,b3,h6,h7,h⟩:=ay h;obtain ⟨n2,n3,h8,h9,h⟩:=ay h;obtain ⟨h10,h⟩:=av h;cases h;intro ho;obtain ⟨o1,o2,o3,_⟩:=ho;have e1:rows'=rows:=eQ o1;have e2:=jP o2;have e3:=jP o3;rw[Bool.and_eq_true] at h10;have e4:e=p.1:=(beq_iff _ _).1 h10.1;have e5:sz=p.2.size:=(beq_iff _ _).1 h10.2;subst e1;subst e4;subst e5;subst h8;subst h9;exact Wn h4 rfl h5 h6 h7 (e2.trans h2) (e3.trans h3) hum hR
 ·cases h
def JS (E:Env) (s:LS) (Q:List (List AV)) (lo0 n:Nat) (lo hi:Int) (l u:Nat) (op:Op):Option Res:=
 match op with
 | .slice t a o1 o2 none=>ai (fU E t) fun p=>aF (mz s.ts o1) (mz s.ts o2) fun b1 b2=>(match aJ s.ts a with
  | .ms K sz lo' n'=>(match lk K s.bs with
   |some (.rows _ e sz' Q')=>sel (Nat.beq e p.1&&(Nat.beq sz p.2.size&&Nat.beq sz' p.2.size)) (some (s,.ms K p.2.size (Nat.add lo0 l) (Nat.sub u l),none,[obR Q' Q,obN lo' lo0,obN n' n,obI (b1.getD 0) lo,obI (b2.getD (n:Nat)) hi])) none
   |_=>none)
  |_=>none)
 |_=>none
theorem WX {Q:List (List AV)} {lo0 n:Nat} {lo hi:Int} {l u:Nat} {op:Op} {r:Res} (h1:lo=(l:Int)) (h2:hi=(u:Int)) (hlu:l≤u) (hum:u≤n) (hn:lo0+n≤Q.length) (h:JS E s Q lo0 n lo hi l u op=some r):eE E B op s r:=by
 unfold JS at h;split at h
 ·obtain ⟨p,h3,h⟩:=af h;obtain ⟨b1,b2,h5,h6,h⟩:=ay h;split at h
  ·rename_i K sz lo' n' ha;split at h
   ·rename_i z e sz' Q' hb;obtain ⟨h7,h⟩:=av h;cases h;intro ho;obtain ⟨o1,o2,o3,o4,o5,_⟩:=ho;have e1:=eQ o1;have e2:=eI o2;have e3:=eI o3;have e4:=jP o4;have e5:=jP o5;rw[Bool.and_eq_true,Bool.and_eq_true] at h7;have e6:e=p.1:=(beq_iff _ _).1 h7.1;have e7:sz=p.2.size:=(beq_iff _ _).1 h7.2.1;have e8:sz'=p.2.size:=(beq_iff _ _).1 h7.2.2;subst e1;subst e2;subst e3;subst e6;subst e7;subst e8;exact ML h3 ha hb h5 h6 (e4.trans h1) (e5.trans h2) hlu hum hn
   ·cases h
  ·cases h
 ·cases h
def CD (b:Builtin) (op:Op):Option ((Operand×Operand)×TypeId×TypeId):=
 match op with
 | .call c=>(match c.callee with
  | .builtin b'=>sel (decide (b'=b)) (match c.args.toList,c.argTypes.toList with
   | [a,y],[t1,t2]=>some ((a,y),t1,t2)
   |_,_=>none) none
  |_=>none)
 |_=>none
theorem qL {b:Builtin} {op:Op} {q:(Operand×Operand)×TypeId×TypeId} (h:CD b op=some q):∃c,op= .call c∧c.callee= .builtin b∧c.args.toList= [q.1.1,q.1.2]∧c.argTypes.toList= [q.2.1,q.2.2]:=by
 unfold CD at h;split at h
 ·rename_i c;split at h
  ·rename_i b' hc;obtain ⟨h1,h2⟩:=av h;clear h;have e:b'=b:=by simpa using h1
   split at h2
   ·rename_i ha ht;cases h2;exact ⟨c,rfl,by rw[hc,e],ha,ht⟩
   ·cases h2
  ·cases h
 ·cases h
def FJ (E:Env) (pks:List Nat) (s:LS) (w:Bool) (Q P R Q':List (List AV)) (n n':Nat) (sr:Sr R) (op:Op) (d:Option Nat):Option Res:=
 ai (CD .append op) fun q=>aF (fU E q.2.1) (E.ty.get q.2.2) fun p i2=>ai (C6 s p.2.size (aJ s.ts q.1.2) sr) fun obs=>(match aJ s.ts q.1.1 with
  | .ms K sz lo n0=>(match lk K s.bs with
   |some (.rows z e sz' Q0)=>sel (da p.2&&(j0 i2.desc&&(Nat.beq lo 0&&(Nat.beq sz p.2.size&&(Nat.beq sz' p.2.size&&(Nat.beq e p.1 && !cc K pks)))))) (some ((s.ea K).set K (.rows (w&&z) e sz Q'),.ms K sz 0 n',some (K,false),obR Q0 Q::obN n0 n::obs)) none
   |_=>none)
  | .aR=>ai d fun K=>(match lk K s.bs with
   |some (.rows true e sz' [])=>sel (da p.2&&(j0 i2.desc&&(Nat.beq sz' p.2.size&&(Nat.beq e p.1 && !cc K pks)))) (some ((s.ea K).set K (.rows true e sz' Q'),.ms K sz' 0 n',some (K,false),obR [] Q::obN 0 n::obs)) none
   |_=>none)
  |_=>none)
theorem JU {pks:List Nat} {w:Bool} {Q P R Q':List (List AV)} {n n':Nat} {sr:Sr R} {op:Op} {d:Option Nat} {r:Res} (hB:BOK pks B) (hw:w=true→n=Q.length) (hP:Q.take n=P) (hn:n≤Q.length) (hn6:n≤1000000) (hR:R.length≤1000000) (hQ':P++R=Q') (hl:Q'.length=n') (h:FJ E pks s w Q P R Q' n n' sr op d=some r):eE E B op s r:=by
 subst hl;subst hQ';unfold FJ at h;obtain ⟨⟨⟨a,y⟩,t1,t2⟩,h1,h0⟩:=af h;clear h;obtain ⟨c,rfl,hc1,hc2,hc3⟩:=qL h1;have h:=h0;clear h0;obtain ⟨p,i2,h2,h3,h⟩:=ay h;obtain ⟨obs,h4,h⟩:=af h;split at h
 ·rename_i K sz lo n0 ha;split at h
  ·rename_i z e sz' Q0 hb;obtain ⟨h5,h⟩:=av h;cases h;intro ho;obtain ⟨o1,o2,o3⟩:=ho;have e1:=eQ o1;have e2:=eI o2;simp only[Bool.and_eq_true] at h5;obtain ⟨k1,k2,k3,k4,k5,k6,k7⟩:=h5;have e3:lo=0:=(beq_iff _ _).1 k3;have e4:sz=p.2.size:=(beq_iff _ _).1 k4;have e5:sz'=p.2.size:=(beq_iff _ _).1 k5;have e6:e=p.1:=(beq_iff _ _).1 k6;subst e1;subst e2;subst e3;subst e4;subst e5;subst e6;refine Ws hc1 hc2 hc3 h2 k1 h3 k2 ha rfl (sy h4 o3) hP hn hn6 hR (fun hz=> ?_) hb (hB K (by simpa using k7))
   rw[Bool.and_eq_true] at hz;exact ⟨hz.2,hw hz.1⟩
  ·cases h
 ·rename_i ha;obtain ⟨K,hd,h⟩:=af h;split at h
  ·rename_i e sz' hb;obtain ⟨h5,h⟩:=av h;cases h;intro ho;obtain ⟨o1,o2,o3⟩:=ho;have e1:=eQ o1;have e2:=eI o2;simp only[Bool.and_eq_true] at h5;obtain ⟨k1,k2,k5,k6,k7⟩:=h5;have e5:sz'=p.2.size:=(beq_iff _ _).1 k5;have e6:e=p.1:=(beq_iff _ _).1 k6;subst e1;subst e2;subst e5;subst e6;have hP':P= []:=by rw[←hP];rfl
   subst hP';exact PF hc1 hc2 hc3 h2 k1 h3 k2 ha rfl (sy h4 o3) hR hb (hB K (by simpa using k7))
  ·cases h
 ·cases h
def JV (E:Env) (pks:List Nat) (s:LS) (Q R Q':List (List AV)) (n':Nat) (sr:Sr R) (op:Op) (d:Option Nat):Option Res:=
 ai (CD .append op) fun q=>aF (fU E q.2.1) (E.ty.get q.2.2) fun p i2=>aF (C6 s p.2.size (aJ s.ts q.1.2) sr) d fun obs K=>(match aJ s.ts q.1.1 with
  | .slf _ sz Q0=>sel (da p.2&&(j0 i2.desc&&(Nat.beq sz p.2.size&&jq pks s K))) (some (s.set K (.rows true p.1 p.2.size Q'),.ms K p.2.size 0 n',some (K,true),obR Q0 Q::obs)) none
  |_=>none)
theorem W0 {pks:List Nat} {Q R Q':List (List AV)} {n':Nat} {sr:Sr R} {op:Op} {d:Option Nat} {r:Res} (hB:BOK pks B) (hn6:Q.length≤1000000) (hR:R.length≤1000000) (hne:R≠ []) (hQ':Q++R=Q') (hl:Q'.length=n') (h:JV E pks s Q R Q' n' sr op d=some r):eE E B op s r:=by
 subst hl;subst hQ';unfold JV at h;obtain ⟨⟨⟨a,y⟩,t1,t2⟩,h1,h0⟩:=af h;clear h;obtain ⟨c,rfl,hc1,hc2,hc3⟩:=qL h1;have h:=h0;clear h0;obtain ⟨p,i2,h2,h3,h⟩:=ay h;obtain ⟨obs,K,h4,hd,h⟩:=ay h;split at h
 ·rename_i e0 sz Q0 ha;obtain ⟨h5,h⟩:=av h;cases h;intro ho;obtain ⟨o1,o3⟩:=ho;have e1:=eQ o1;simp only[Bool.and_eq_true] at h5;obtain ⟨k1,k2,k4,k5⟩:=h5;have e4:sz=p.2.size:=(beq_iff _ _).1 k4;subst e1;subst e4;obtain ⟨f1,f2⟩:=kr hB k5;exact PE hc1 hc2 hc3 h2 k1 h3 k2 ha rfl (sy h4 o3) hne hn6 hR f1 f2
 ·cases h
def Dz (E:Env) (s:LS) {R:List (List AV)} (sr:Sr R) (op:Op):Option Res:=
 ai (CD .append op) fun q=>aF (fU E q.2.1) (E.ty.get q.2.2) fun p i2=>ai (C6 s p.2.size (aJ s.ts q.1.2) sr) fun obs=>(match aJ s.ts q.1.1 with
  | .slf e sz Q0=>sel (da p.2&&(j0 i2.desc&&Nat.beq sz p.2.size)) (some (s,.slf e sz Q0,none,obs)) none
  |_=>none)
theorem Ql {R:List (List AV)} {sr:Sr R} {op:Op} {r:Res} (hR:R= []) (h:Dz E s sr op=some r):eE E B op s r:=by
 subst hR;unfold Dz at h;obtain ⟨⟨⟨a,y⟩,t1,t2⟩,h1,h0⟩:=af h;clear h;obtain ⟨c,rfl,hc1,hc2,hc3⟩:=qL h1;have h:=h0;clear h0;obtain ⟨p,i2,h2,h3,h⟩:=ay h;obtain ⟨obs,h4,h⟩:=af h;split at h
 ·rename_i e sz Q0 ha;obtain ⟨h5,h⟩:=av h;cases h;intro ho;simp only[Bool.and_eq_true] at h5;obtain ⟨k1,k2,k4⟩:=h5;have e4:sz=p.2.size:=(beq_iff _ _).1 k4;subst e4;exact MS hc1 hc2 hc3 h2 k1 h3 k2 ha rfl (sy h4 ho)
 ·cases h
def Qi (E:Env) (s:LS) (Q R Q':List (List AV)) (lo n m:Nat) (sr:Sr R) (op:Op):Option Res:=
 ai (CD .copy op) fun q=>ai (fU E q.2.1) fun p=>(match aJ s.ts q.1.1 with
  | .ms K sz lo' n'=>(match lk K s.bs with
   |some (.rows z e sz' Q2)=>ai (C6 s p.2.size (aJ s.ts q.1.2) sr) fun obs=>sel (da p.2&&(Nat.beq sz p.2.size&&Nat.beq sz' p.2.size)) (some (s.set K (.rows z e sz Q'),.int .i64 (m:Int),some (K,false),obR Q2 Q::obN lo' lo::obN n' n::obs)) none
   |_=>none)
  |_=>none)
theorem Y9 {Q R Q':List (List AV)} {lo n m:Nat} {sr:Sr R} {op:Op} {r:Res} (hn:lo+n≤Q.length) (hm:m=min R.length n) (hQ':Q'=Q.take lo++R.take m++Q.drop (lo+m)) (hne:Q≠ []) (hn0:lo=0∨0<n) (h:Qi E s Q R Q' lo n m sr op=some r):eE E B op s r:=by
 unfold Qi at h;obtain ⟨⟨⟨a,y⟩,t1,t2⟩,h1,h0⟩:=af h;clear h;obtain ⟨c,rfl,hc1,hc2,hc3⟩:=qL h1;have h:=h0;clear h0;obtain ⟨p,h2,h⟩:=af h;split at h
 ·rename_i K sz lo' n' ha;split at h
  ·rename_i z e sz' Q2 hb;obtain ⟨obs,h4,h⟩:=af h;obtain ⟨h5,h⟩:=av h;cases h;intro ho;obtain ⟨o1,o2,o3,o4⟩:=ho;have e1:=eQ o1;have e2:=eI o2;have e3:=eI o3;simp only[Bool.and_eq_true] at h5;obtain ⟨k1,k2,k3⟩:=h5;have e4:sz=p.2.size:=(beq_iff _ _).1 k2;have e5:sz'=p.2.size:=(beq_iff _ _).1 k3;subst e1;subst e2;subst e3;subst e4;subst e5;exact adS hc1 hc2 hc3 h2 k1 ha rfl (sy h4 o4) hn hm hQ' hb hne hn0
  ·cases h
 ·cases h
def Qa (s:LS) (b:ByteArray) (pos:Nat) (op:Op):Option Res:=
 match op with
 | .next it true=>(match aJ s.ts it with
  | .it K=>(match lk K s.bs with
   |some (.iter b' pos')=>some (s.set K (.iter b (Nat.add pos (Utf8.decode b pos).2)),.tup [.bool true,.int .i64 (pos:Int),.int .i32 (Utf8.decode b pos).1],some (K,false),[obS b' b,obN pos' pos])
   |_=>none)
  |_=>none)
 |_=>none
theorem Y0 {b:ByteArray} {pos:Nat} {op:Op} {r:Res} (hlt:pos<b.size) (h:Qa s b pos op=some r):eE E B op s r:=by
 unfold Qa at h;split at h
 ·split at h
  ·rename_i ha;split at h
   ·rename_i hb;cases h;intro ho;obtain ⟨o1,o2,_⟩:=ho;have e1:=vr o1;have e2:=eI o2;subst e1;subst e2;exact adO ha hb hlt
   ·cases h
  ·cases h
 ·cases h
def Qg (s:LS) (b:ByteArray) (pos:Nat) (op:Op):Option Res:=
 match op with
 | .next it true=>(match aJ s.ts it with
  | .it K=>(match lk K s.bs with
   |some (.iter b' pos')=>some (s,.tup [.bool false],none,[obS b' b,obN pos' pos])
   |_=>none)
  |_=>none)
 |_=>none
theorem Y7 {b:ByteArray} {pos:Nat} {op:Op} {r:Res} (hlt:¬pos<b.size) (h:Qg s b pos op=some r):eE E B op s r:=by
 unfold Qg at h;split at h
 ·split at h
  ·rename_i ha;split at h
   ·rename_i hb;cases h;intro ho;obtain ⟨o1,o2,_⟩:=ho;have e1:=vr o1;have e2:=eI o2;subst e1;subst e2;exact Pz ha hb hlt
   ·cases h
  ·cases h
 ·cases h
def Qb (E:Env) (s:LS) (es:List (AV×AV)) (k x z:AV) (ok:Bool) (op:Op):Option Res:=
 match op with
 | .lookup t a c ok'=>ai (JH E t) fun p=>(match aJ s.ts a with
  | .mp K=>(match lk K s.bs with
   |some (.map es')=>sel (JR k p.1.desc&&(ok==ok'&&(bW x).isEmpty)) (ai (gy p.2 (eg p.2.zero) 0) fun z'=>some (s,x,none,obM es' es++ [(aJ s.ts c,k),(z',z)])) none
   |_=>none)
  |_=>none)
 |_=>none
theorem Y2 {es:List (AV×AV)} {k x z:AV} {ok:Bool} {op:Op} {r:Res} (hf:∃f,iv k es=some f∧vQ ok (some z) f=some x) (h:Qb E s es k x z ok op=some r):eE E B op s r:=by
 obtain ⟨f,hf,hx⟩:=hf;unfold Qb at h;split at h
 ·obtain ⟨p,h1,h⟩:=af h;split at h
  ·rename_i ha;split at h
   ·rename_i hb;obtain ⟨h2,h⟩:=av h;obtain ⟨z',h3,h⟩:=af h;cases h;intro ho;obtain ⟨e1,o2,o3,_⟩:=Wt ho;have o2:aJ s.ts _=k:=o2;have o3:z'=z:=o3;simp only[Bool.and_eq_true,beq_iff_eq] at h2;obtain ⟨k1,k2,k3⟩:=h2;subst e1;subst o3;subst k2;exact Wp h1 ha o2 k1 hb hf (by rw[h3];exact hx) k3
   ·cases h
  ·cases h
 ·cases h
def P7 (E:Env) (s:LS) (es es':List (AV×AV)) (k x:AV) (op:Op):Option Res:=
 match op with
 | .mapUpdate t a c d=>ai (JH E t) fun p=>(match aJ s.ts a with
  | .mp K=>(match lk K s.bs with
   |some (.map es0)=>sel (JR k p.1.desc) (ai (ndf (aJ s.ts d)) fun x'=>sel (bW x).isEmpty (some (s.set K (.map es'),.tup [],some (K,false),obM es0 es++ [(aJ s.ts c,k),(x',x)])) none) none
   |_=>none)
  |_=>none)
 |_=>none
theorem YW {es es':List (AV×AV)} {k x:AV} {op:Op} {r:Res} (hf:∃f,iv k es=some f∧Cz es k x f=es') (h:P7 E s es es' k x op=some r):eE E B op s r:=by
 obtain ⟨f,hf,hx⟩:=hf;subst hx;unfold P7 at h;split at h
 ·obtain ⟨p,h1,h⟩:=af h;split at h
  ·rename_i ha;split at h
   ·rename_i hb;obtain ⟨h2,h⟩:=av h;obtain ⟨x',h3,h⟩:=af h;obtain ⟨h5,h6⟩:=mP h3;obtain ⟨h4,h⟩:=av h;cases h;intro ho;obtain ⟨e1,o2,o3,_⟩:=Wt ho;have o2:aJ s.ts _=k:=o2;have o3:x'=x:=o3;subst e1;subst o3;exact Wm (fun _ _ _=>rfl) h1 ha o2 h2 h5 (h5 ▸ h6) h4 hb hf
   ·cases h
  ·cases h
 ·cases h
end
section
variable {F F':Hf} {g g':Gb} {B:Bs} {φ:Nat→List Nat} {s s' s1:LS} {tm:Tf} {h:Hs} {hp:Hf} {E:Env} {nt:Nat} {all l:List Oper}
inductive P1 where
 |same|sl (e s:Nat)|sn (e s:Nat)|sx (e s:Nat)|un|nl
inductive PM where
 |one (m:P1)|agg (ms:List P1)
def P1.app (m:P1) (x:AV):AV:=
 match m with
 | .same=>x
 | .un=>.undef
 | .sl e s=>(match x with
  | .aR=>.slice e s []
  | .sln e' s' rows=>.slice e' s' rows
  | .slf e' s' rows=>.slice e' s' rows
  |x=>x)
 | .sn e s=>(match x with
  | .aR=>.sln e s []
  |x=>x)
 | .sx e s=>(match x with
  | .aR=>.slx e s []
  | .slice e' s' rows=>.slx e' s' rows
  | .sln e' s' rows=>.slx e' s' rows
  | .slf e' s' rows=>.slx e' s' rows
  |x=>x)
 | .nl=>(match x with
  | .sln _ _ []=>.aR
  |x=>x)
def apps:List P1→List AV→List AV
 |m::ms,x::xs=>m.app x::apps ms xs
 |_,xs=>xs
def PM.app (m:PM) (x:AV):AV:=
 match m with
 | .one m=>m.app x
 | .agg ms=>(match x with| .agg xs=>.agg (apps ms xs)|x=>x)
theorem P1.va (m:P1) {x:AV} {v:SV} (h:VA F g v x):VA F g v (m.app x):=by
 unfold P1.app;split
 ·exact h
 ·exact .undef v
 ·split
  ·cases h;exact .jN _ _
  ·cases h with
   |og=>exact .jN _ _
   |sln hF hc hn hz hu hl h=>exact .slice hF hc hn hu hl h
  ·cases h with
   |rS=>exact .jN _ _
   |slf hF hn hu hl h=>exact .slice hF (Nat.le_refl _) hn hu hl h
  ·exact h
 ·split
  ·cases h;exact .og _ _
  ·exact h
 ·split
  ·cases h;exact .mI _ _
  ·cases h with
   |jN=>exact .mI _ _
   |slice hF hc hn hu hl h=>exact .slx hF hc hn hu hl h
  ·cases h with
   |og=>exact .mI _ _
   |sln hF hc hn hz hu hl h=>exact .slx hF hc hn hu hl h
  ·cases h with
   |rS=>exact .mI _ _
   |slf hF hn hu hl h=>exact .slx hF (Nat.le_refl _) hn hu hl h
  ·exact h
 ·split
  ·cases h with
   |og=>exact .aR
   |sln hF hc hn hz=>exact absurd rfl hz
  ·exact h
theorem xo:∀{ms:List P1} {xs:List AV} {vs:List SV},VAs F g vs xs→VAs F g vs (apps ms xs)
 | [],xs,_,h=>by cases xs<;>exact h
 |m::ms,[],_,h=>h
 |m::ms,x::xs,_,.cons h t=>.cons (m.va h) (xo t)
theorem Lb:∀(ms:List P1) (xs:List AV),(apps ms xs).length=xs.length
 | [],xs=>by cases xs<;>rfl
 |m::ms,[]=>rfl
 |m::ms,x::xs=>by show (apps ms xs).length+1=_;rw[Lb ms xs];rfl
theorem VAs.cutAt:∀{r R:List AV} {vs:List SV},VAs F g vs (r++R)→∃v1 v2,vs=v1++v2∧VAs F g v1 r∧VAs F g v2 R
 | [],R,vs,h=>⟨[],vs,rfl,.nil,h⟩
 |x::r,R,_,.cons h t=>by
  obtain ⟨v1,v2,e,a,b⟩:=VAs.cutAt (r:=r) t;exact ⟨_::v1,v2,by rw[e];rfl,.cons h a,b⟩
theorem EW {ms:List P1}:∀{Q:List (List AV)} {vs:List SV},VAs F g vs Q.flatten→VAs F g vs (Q.map (apps ms)).flatten
 | [],_,h=>h
 |r::Q,vs,h=>by
  obtain ⟨v1,v2,e,a,b⟩:=VAs.cutAt (r:=r) (R:=Q.flatten) h;subst e;exact (xo a).append (EW b)
theorem Na {z:Bool} {e:TypeId} {sz:Nat} {Q:List (List AV)} (ms:List P1):WB (.rows z e sz Q) (.rows z e sz (Q.map (apps ms))):=fun F g h K fp q=>by
 cases q with
 |df hb=>exact .df hb
 |rows hb hh hz hu hc q=>
  refine .rows hb hh (fun e=> ?_) (fun r hr=> ?_) (by rw[List.length_map];exact hc) (by rw[List.length_map];exact EW q)
  ·intro hq;exact hz e (List.map_eq_nil_iff.1 hq)
  ·obtain ⟨r0,h0,e0⟩:=List.mem_map.1 hr;rw[←e0,Lb];exact hu r0 h0
theorem aP.box {op:Op} {x:AV} {K:Nat} {b b':Bx} {l:Bool} (hy:aP E B op s (s.set K b) x (some (K,l))) (hw:WB b b'):aP E B op s (s.set K b') x (some (K,l)):=.mk fun {F g φ tm hh new} r h1 h2=>by
 have less:oz (s.set K b) (s.set K b'):=⟨fun t y hy=>.inr ⟨y,hy,WV.refl y⟩,fun k c hc=>by
  rw[show (s.set K b').bs=(K,b')::s.bs from rfl,br] at hc;rw[show (s.set K b).bs=(K,b)::s.bs from rfl,br];split at hc
  ·rename_i e;cases hc;rw[if_pos e];exact ⟨b,rfl,hw⟩
  ·rename_i e;rw[if_neg e];exact ⟨c,hc,WB.refl c⟩⟩
 obtain ⟨v,us,a1,a2,a3,a4,a5,a6⟩:=hy.go r h1 h2;refine ⟨v,us,a1,a2,fun h' hu=>(a3 h' hu).less less,a4,fun k c hc=> ?_,fun k hk=>wM (hk.elim .inl fun ⟨l,hl⟩=>.inr (by cases hl;rfl))⟩
 obtain ⟨c0,hc0,_⟩:=less.2 k c hc;exact a5 k c0 hc0
theorem aee {pks:List Nat} {n1 n2:Int} {l m:Nat} {x:List AV} {Q':List (List AV)} {op:Op} {d:Option Nat} {r:Res} (hB:BOK pks B) (h1:n1=(l:Int)) (h2:n2=(m:Int)) (hl:l≤m) (hm:m≤1000000) (ms:List P1) (hQ':(List.replicate l x).map (apps ms)=Q') (h:Y1 E pks s n1 n2 l x Q' op d=some r):eE E B op s r:=by
 subst hQ';unfold Y1 at h;split at h
 ·obtain ⟨p,h3,h⟩:=af h;split at h
  ·rename_i ha hc;obtain ⟨h4,h⟩:=av h;cases h;intro ho;obtain ⟨o1,o2,o3,_⟩:=ho;have e1:=jP o1;have e2:=jP o2;have e3:eg p.2.zero=x:=by have o3:AV.agg (eg p.2.zero)= .agg x:=o3;simpa using o3
   subst e1;subst e2;subst e3;rw[Bool.and_eq_true,Bool.and_eq_true] at h4;obtain ⟨f1,f2⟩:=kr hB h4.2.2;exact (Jx h3 h4.1 ha hc h1 h2 hl hm f1 f2 h4.2.1).box (Na ms)
  ·cases h
 ·cases h
theorem PM.va (m:PM) {x:AV} {v:SV} (h:VA F g v x):VA F g v (m.app x):=by
 unfold PM.app;split
 ·exact P1.va _ h
 ·split
  ·cases h with|agg h=>exact .agg (xo h)
  ·exact h
theorem PM.wv (m:PM) (x:AV):WV x (m.app x):=.inr fun _ _ _ h=>m.va h
def Gj:List PM→List AV→List AV
 |m::ms,x::xs=>m.app x::Gj ms xs
 |_,xs=>xs
theorem Lf:∀{ms:List PM} {xs:List AV} {vs:List SV},VAs F g vs xs→VAs F g vs (Gj ms xs)
 | [],xs,_,h=>by cases xs<;>exact h
 |m::ms,[],_,h=>h
 |m::ms,x::xs,_,.cons h t=>.cons (m.va h) (Lf t)
inductive PB where
 |same|flat (ms:List P1)|any|hol (m:P1)|rws (ms:List P1)
def PB.app (m:PB) (b:Bx):Bx:=
 match m with
 | .same=>b
 | .flat ms=>(match b with| .flat e cs=>.flat e (apps ms cs)|b=>b)
 | .any=>(match b with| .rows _ e s Q=>.rows false e s Q|b=>b)
 | .hol m=>(match b with| .hole e s Q i x=>.hole e s Q i (m.app x)|b=>b)
 | .rws ms=>(match b with| .rows z e s Q=>.rows z e s (Q.map (apps ms))|b=>b)
theorem PB.wb (m:PB) (b:Bx):WB b (m.app b):=fun F g h K fp q=>by
 unfold PB.app;split
 ·exact q
 ·split
  ·cases q with|flat hh q=>exact .flat hh (xo q)
  ·exact q
 ·split
  ·cases q with
   |df hb=>exact .df hb
   |rows hb hh hz hu hc q=>exact .rows hb hh (fun e=>by cases e) hu hc q
  ·exact q
 ·split
  ·cases q with|hole hb hh hu hc q hi hv hx=>exact .hole hb hh hu hc q hi hv (P1.va _ hx)
  ·exact q
 ·split
  ·exact Na _ _ _ _ _ _ q
  ·exact q
def bxA (b:Bx):AV:=
 match b with
 | .flat e cs=>.fn e [] cs
 | .rows true e s Q=>.sln e s Q
 | .rows false e s Q=>.slice e s Q
 | .map es=>.tup [.agg (es.map (·.1)),.agg (es.map (·.2))]
 | .iter b pos=>.ifc pos (.str b)
 | .hole e s Q i x=>.tup [.sln e s Q,.loc i 0,x]
theorem By {a b:Bx} (h:bxA a=bxA b):a=b:=by
 unfold bxA at h;split at h<;>split at h<;>first|(cases h;done)|skip
 ·injection h with h1 h2 h3;subst h1;subst h3;rfl
 ·injection h with h1 h2 h3;subst h1;subst h2;subst h3;rfl
 ·injection h with h1 h2 h3;subst h1;subst h2;subst h3;rfl
 ·injection h with h1
  injection h1 with h1 h2
  injection h2 with h2 h3
  injection h1 with h1
  injection h2 with h2
  rw[yO h1 h2]
 ·injection h with h1 h2;injection h2 with h2;subst h1;subst h2;rfl
 ·injection h with h1
  injection h1 with h1 h2
  injection h1 with h3 h4 h5
  injection h2 with h6 h7
  injection h6 with h6 _
  injection h7 with h7 _
  subst h3;subst h4;subst h5;subst h6;subst h7;rfl
inductive It (E:Env):Type
 |eqv {x y:AV} (h:x=y)
 |idx {rows:List (List AV)} {n:Int} {R:List AV} (h:kX rows n=some R)
 |idb {n k:Nat} {m:Int} (h:m=(k:Int)) (hk:k<n)
 |row {Q:List (List AV)} {j:Nat} {R:List AV} (h:Q[j]? =some R)
 |hol {Q:List (List AV)} {j:Nat} {R:List AV} {f:Nat} {Q':List (List AV)} (h:Q[j]? =some R) (hQ:Q.set j (bZ R f [.undef])=Q')
 |opn {Q:List (List AV)} {j:Nat} {x:AV} {Q':List (List AV)} (K:Nat) (h:Q[j]? =some [x]) (hQ:Q.set j [.undef]=Q')
 |hst {Q:List (List AV)} {j f:Nat} (hu:Q.flatten[j]? =some .undef)
 |clo {Q:List (List AV)} {j:Nat} {R:List AV} {f:Nat} {x:AV} {Q':List (List AV)} (K:Nat) (h:Q[j]? =some R) (hQ:Q.set j (bZ R f [x])=Q')
 |nz {n:Int} (h:n≠0)
 |cat {a b:ByteArray} (h:a.size+b.size≤1000000)
 |mk {n1 n2:Int} {l m:Nat} {x:List AV} {Q':List (List AV)} (h1:n1=(l:Int)) (h2:n2=(m:Int)) (hl:l≤m) (hm:m≤1000000) (ms:List P1) (hQ:(List.replicate l x).map (apps ms)=Q')
 |sto {Q:List (List AV)} {j:Nat} {R:List AV} {f:Nat} {xs:List AV} {Q':List (List AV)} (h:Q[j]? =some R) (hQ:Q.set j (bZ R f xs)=Q')
 |nxt {b:ByteArray} {pos:Nat} (h:pos<b.size)
 |fin {b:ByteArray} {pos:Nat} (h:¬pos<b.size)
 |lkp {es:List (AV×AV)} {k x z:AV} (ok:Bool) (h:∃f,iv k es=some f∧vQ ok (some z) f=some x)
 |upd {es es':List (AV×AV)} {k x:AV} (h:∃f,iv k es=some f∧Cz es k x f=es')
 |nrm (m:PM)
 |laid {x y:Bx} (h:x=y)
 |cut {rows R:List (List AV)} {lo hi:Int} {l u:Nat} (h1:lo=(l:Int)) (h2:hi=(u:Int)) (hlu:l≤u) (hum:u≤rows.length) (hR:(rows.drop l).take (u-l)=R)
 |kR {rows R:List (List AV)} {hi mx:Int} {u:Nat} (h2:hi=(u:Int)) (h3:mx=(u:Int)) (hum:u≤rows.length) (hR:rows.take u=R)
 |D5 {Q:List (List AV)} {lo0 n:Nat} {lo hi:Int} {l u:Nat} (h1:lo=(l:Int)) (h2:hi=(u:Int)) (hlu:l≤u) (hum:u≤n) (hn:lo0+n≤Q.length)
 |app {Q R Q':List (List AV)} {n n':Nat} (hn:n=Q.length) (hn6:Q.length≤1000000) (hR:R.length≤1000000) (hQ:Q++R=Q') (hl:Q'.length=n') (sr:Sr R)
 |Z9 {Q P R Q':List (List AV)} {n n':Nat} (hP:Q.take n=P) (hn:n≤Q.length) (hn6:n≤1000000) (hR:R.length≤1000000) (hQ:P++R=Q') (hl:Q'.length=n') (sr:Sr R)
 |Ec {Q R Q':List (List AV)} {n':Nat} (hn6:Q.length≤1000000) (hR:R.length≤1000000) (hne:R≠ []) (hQ:Q++R=Q') (hl:Q'.length=n') (sr:Sr R)
 |BE {R:List (List AV)} (h:R= []) (sr:Sr R)
 |cpy {Q R Q':List (List AV)} {lo n m:Nat} (hn:lo+n≤Q.length) (hm:m=min R.length n) (hQ':Q'=Q.take lo++R.take m++Q.drop (lo+m)) (hne:Q≠ []) (hn0:lo=0∨0<n) (sr:Sr R)
 |chr {b:ByteArray} {n:Int} {c:UInt8} (h:kX b.data.toList n=some c)
 |call {f:Nat} {bs bs':List (Nat×Bx)} {xs:List AV} {y:AV} (h:bC E f bs xs y bs') (ms:List PM) (ps rs:bw)
 |frz {Q:List (List AV)} {n:Nat} (K:Nat) (h:Q.length=n)
 |frf (K:Nat)
 |ren (K K':Nat)
 |shr {Q P:List (List AV)} {u:Nat} (K:Nat) (h:Q.take u=P)
 |born (ts:List Nat) (cs:bw) (K:Nat) (z:Bool) (e sz:Nat)
 |norm (ts:List (Nat×PM)) (bs:List (Nat×PB))
 |seq {x y:AV} (t:Nat) (h:x=y)
 |beq {x y:Bx} (K:Nat) (h:x=y)
theorem aP.weak {op:Op} {x:AV} {W:WK} (m:PM) (h:aP E B op s s1 x W):aP E B op s s1 (m.app x) W:=.mk fun {F g φ tm hh new} r h1 h2=>by
 obtain ⟨v,us,a,b,c⟩:=h.go r h1 h2;exact ⟨v,us,a,m.va b,c⟩
def O5 (E:Env) (pks:List Nat) (s:LS) (op:Op) (d:Option Nat) (it:It E):Option Res:=
 match it with
 | @It.eqv _ x y _=>ai (nM E pks s op d) fun r=>some (r.1,y,r.2.2.1,(r.2.1,x)::r.2.2.2)
 | @It.idx _ rows n R _=>Qc E s rows n R op
 | @It.idb _ n k m _ _=>Qd E s n k m op
 | @It.row _ Q j R _=>P9 E s Q j R op
 | @It.hol _ Q j _ f Q' _ _=>Qf E s Q j f Q' op
 | @It.hst _ Q j f _=>Qe E s Q j f op
 | @It.nz _ n _=>YZ s n op
 | @It.cat _ a b _=>Qk s a b op
 | @It.mk _ n1 n2 l _ x Q' _ _ _ _ _ _=>Y1 E pks s n1 n2 l x Q' op d
 | @It.sto _ Q j _ f xs Q' _ _=>P8 E s Q j f xs Q' op
 | @It.nxt _ b pos _=>Qa s b pos op
 | @It.fin _ b pos _=>Qg s b pos op
 | @It.lkp _ es k x z ok _=>Qb E s es k x z ok op
 | @It.upd _ es es' k x _=>P7 E s es es' k x op
 | @It.laid _ x y _=>ai d fun K=>sel (jq pks s K) (ai (vp E s K op) fun p=>some (s.set K y,p.2,some (K,true),[(bxA p.1,bxA x)])) none
 | .nrm m=>ai (nM E pks s op d) fun r=>some (r.1,m.app r.2.1,r.2.2.1,r.2.2.2)
 | @It.cut _ rows R lo hi _ _ _ _ _ _ _=>Qh E s rows lo hi R op
 | @It.kR _ rows R hi mx _ _ _ _ _=>JT E s rows hi mx R op
 | @It.Ec _ Q R Q' n' _ _ _ _ _ sr=>JV E pks s Q R Q' n' sr op d
 | @It.BE _ _ _ sr=>Dz E s sr op
 | @It.D5 _ Q lo0 n lo hi l u _ _ _ _ _=>JS E s Q lo0 n lo hi l u op
 | @It.app _ Q R Q' n n' _ _ _ _ _ sr=>FJ E pks s true Q Q R Q' n n' sr op d
 | @It.Z9 _ Q P R Q' n n' _ _ _ _ _ _ sr=>FJ E pks s false Q P R Q' n n' sr op d
 | @It.cpy _ Q R Q' lo n m _ _ _ _ _ sr=>Qi E s Q R Q' lo n m sr op
 | @It.chr _ b n c _=>Qj E s b n c op
 |_=>none
theorem HC {pks:List Nat} {op:Op} {d:Option Nat} {it:It E} {r:Res} (hB:BOK pks B) (h:O5 E pks s op d it=some r):eE E B op s r:=by
 cases it with
 | @eqv x y h0=>
  obtain ⟨r',h1,h2⟩:=af (show ai (nM E pks s op d) (fun r=>some (r.1,y,r.2.2.1,(r.2.1,x)::r.2.2.2))=some r from h)
  cases h2;intro ho;have key:=qP hB h1 ho.2;have e1:r'.2.1=x:=ho.1;show aP E B op s r'.1 y r'.2.2.1;rw[←h0,←e1];exact key
 |idx h0=>exact Y3 h0 h
 |idb h0 hk=>exact Y4 h0 hk h
 |row h0=>exact YY h0 h
 |hol h0 hQ=>exact Y6 h0 hQ h
 |hst hu=>exact Y5 hu h
 |nz h0=>exact aed h0 h
 |cat h0=>exact Zb h0 h
 |mk h1 h2 hl hm ms hQ=>exact aee hB h1 h2 hl hm ms hQ h
 |sto h0 hQ=>exact YX h0 hQ h
 |nxt h0=>exact Y0 h0 h
 |fin h0=>exact Y7 h0 h
 |lkp ok h0=>exact Y2 h0 h
 |upd h0=>exact YW h0 h
 | @laid x y h0=>
  obtain ⟨K,hd,h⟩:=af (show ai d (fun K=>sel (jq pks s K) (ai (vp E s K op) fun p=>some (s.set K y,p.2,some (K,true),[(bxA p.1,bxA x)])) none)=some r from h)
  obtain ⟨h1,h⟩:=av h;obtain ⟨p,h2,h⟩:=af h;cases h;intro ho;obtain ⟨a,b⟩:=kr hB h1;have e1:p.1=x:=By ho.1;have key:=EC a b h2;rw[e1,h0] at key;exact key
 |nrm m=>
  obtain ⟨r',h1,h2⟩:=af (show ai (nM E pks s op d) (fun r=>some (r.1,m.app r.2.1,r.2.2.1,r.2.2.2))=some r from h)
  cases h2;exact fun ho=>(qP hB h1 ho).weak m
 |cut h1 h2 hlu hum hR=>exact Y8 h1 h2 hlu hum hR h
 |kR h2 h3 hum hR=>exact WY h2 h3 hum hR h
 |Ec hn6 hR hne hQ hl sr=>exact W0 hB hn6 hR hne hQ hl h
 |BE h0 sr=>exact Ql h0 h
 |D5 h1 h2 hlu hum hn=>exact WX h1 h2 hlu hum hn h
 |app hn hn6 hR hQ hl sr=>subst hn;exact JU hB (fun _=>rfl) List.take_length (Nat.le_refl _) hn6 hR hQ hl h
 |Z9 hP hn hn6 hR hQ hl sr=>exact JU hB (fun e=>by cases e) hP hn hn6 hR hQ hl h
 |cpy hn hm hQ' hne hn0 sr=>exact Y9 hn hm hQ' hne hn0 h
 |chr h0=>exact Za h0 h
 |call|frz|frf|ren|shr|opn|clo|born|norm|seq|beq=>cases h
end
section
variable {F F':Hf} {g g':Gb} {B:Bs} {φ:Nat→List Nat} {s s' s1:LS} {tm:Tf} {h:Hs} {hp:Hf} {E:Env} {nt:Nat} {all l:List Oper}
theorem Dw {α β:Type} (f:Nat→α→β) (t:Nat):∀l:List (Nat×α),lk t (l.map fun p=>(p.1,f p.1 p.2))=(lk t l).map (f t)
 | []=>rfl
 |(k,x)::l=>by
  rw[List.map_cons,br,br,Dw f t l];split
  ·rename_i e;subst e;rfl
  ·rfl
theorem Rel.aat (r:Rel B F g φ s tm h) {ft:Nat→AV→AV} {fb:Nat→Bx→Bx} (h0:∀t,ft t .undef= .undef) (h1:∀t v x,VA F g v x→VA F g v (ft t x)) (h2:∀k b fp,du F g h.hp.get k b fp→du F g h.hp.get k (fb k b) fp):
  Rel B F g φ ⟨s.ts.map fun p=>(p.1,ft p.1 p.2),s.bs.map fun p=>(p.1,fb p.1 p.2)⟩ tm h:=by
 have back:∀{k b},lk k (s.bs.map fun p=>(p.1,fb p.1 p.2))=some b→∃b0,lk k s.bs=some b0∧fb k b0=b:=fun {k b} hb=>by
  rw[Dw] at hb;obtain ⟨b0,c1,c2⟩:=Option.map_eq_some_iff.1 hb;exact ⟨b0,c1,c2⟩
 refine {r with tm:=fun t y hy hn=> ?_,bx:=fun k b hb=> ?_,dj:=fun k k' b b' hb hb'=> ?_,nf:=fun k b hb=> ?_,jD:=fun k b hb=> ?_}
 ·have hy:lk t (s.ts.map fun p=>(p.1,ft p.1 p.2))=some y:=hy
  rw[Dw] at hy;obtain ⟨x,hx,e⟩:=Option.map_eq_some_iff.1 hy;by_cases hu:x= .undef
  ·subst hu;rw[h0] at e;exact absurd e.symm hn
  ·obtain ⟨v,v1,v2⟩:=r.tm t x hx hu;subst e;exact ⟨v,v1,h1 t v x v2⟩
 ·obtain ⟨b0,c1,c2⟩:=back hb;subst c2;exact h2 k b0 _ (r.bx k b0 c1)
 ·obtain ⟨b0,c1,_⟩:=back hb;obtain ⟨b1,d1,_⟩:=back hb';exact r.dj k k' b0 b1 c1 d1
 ·obtain ⟨b0,c1,_⟩:=back hb;exact r.nf k b0 c1
 ·obtain ⟨b0,c1,_⟩:=back hb;exact r.jD k b0 c1
def kO (K K' k:Nat):Nat:=sel (Nat.beq k K) K' k
theorem Df (K K' k:Nat):kO K K' k=if k=K then K' else k:=by
 unfold kO;rw[aC];by_cases h:k=K
 ·rw[if_pos h,if_pos ((beq_iff _ _).2 h)]
 ·rw[if_neg h,if_neg (fun e=>h ((beq_iff _ _).1 e))]
def LS.ren (s:LS) (K K':Nat):LS:=⟨s.ts.map fun p=>(p.1,kP (kO K K') p.2),s.bs.map fun p=>(kO K K' p.1,p.2.ren (kO K K'))⟩
theorem sL {K K' k:Nat} {b':Bx}:∀{l:List (Nat×Bx)},lk K' l=none→lk k (l.map fun p=>(kO K K' p.1,p.2.ren (kO K K')))=some b'→∃k0 b0,lk k0 l=some b0∧kO K K' k0=k∧k0≠K'∧b'=b0.ren (kO K K')
 | [],_,h=>by cases h
 |(j,x)::l,hn,h=>by
  rw[br] at hn;rw[List.map_cons,br] at h;split at hn
  ·cases hn
  ·rename_i hj;split at h
   ·rename_i e;cases h;exact ⟨j,x,by rw[br,if_pos rfl],e.symm,fun c=>hj c.symm,rfl⟩
   ·rename_i e;obtain ⟨k0,b0,a1,a2,a3,a4⟩:=sL hn h;refine ⟨k0,b0,?_,a2,a3,a4⟩;rw[br,if_neg (fun c=>e (by rw[←a2,c])),a1]
theorem dR.ren {K K':Nat} (hk:s.free K') (hp:B.pk K=false) (hp':B.pk K'=false) (hn:lk K' s.bs=none):dR B s (s.ren K K'):=.mk fun {F g φ tm h} r=>by
 let g2:Gb:=⟨fun k=>if k=K' then g.ρ K else g.ρ k,fun k=>if k=K' then g.κ K else g.κ k,fun k=>if k=K' then g.β K else g.β k⟩
 let φ2:Nat→List Nat:=fun k=>if k=K' then φ K else φ k
 have one:∀k,k≠K'→g2.ρ (kO K K' k)=g.ρ k∧g2.κ (kO K K' k)=g.κ k∧g2.β (kO K K' k)=g.β k:=fun k hk'=>by
  rw[Df];by_cases e:k=K
  ·subst e;rw[if_pos rfl];exact ⟨if_pos rfl,if_pos rfl,if_pos rfl⟩
  ·rw[if_neg e];exact ⟨if_neg hk',if_neg hk',if_neg hk'⟩
 have gr:∀ks:List Nat,K'∉ks→kA g g2 (kO K K') ks:=fun ks hks k hm=>one k (fun e=>hks (e ▸ hm))
 have ph:∀k,k≠K'→φ2 (kO K K' k)=φ k:=fun k hk'=>by
  rw[Df];by_cases e:k=K
  ·subst e;rw[if_pos rfl];exact if_pos rfl
  ·rw[if_neg e];exact if_neg hk'
 refine ⟨F,g2,φ2,{r with tm:=fun t y hy hne=> ?_,bx:=fun k b hb=> ?_,dj:=fun k k' b b' hb hb' hne=> ?_,nf:=fun k b hb=> ?_,jD:=fun k b hb i hi=> ?_,pin:=fun k hk'=> ?_}⟩
 ·rw[show (s.ren K K').ts=s.ts.map fun p=>(p.1,kP (kO K K') p.2) from rfl,iK] at hy
  obtain ⟨x,hx,e⟩:=Option.map_eq_some_iff.1 hy;by_cases hu:x= .undef
  ·subst hu;exact absurd e.symm hne
  ·obtain ⟨v,v1,v2⟩:=r.tm t x hx hu;subst e;exact ⟨v,v1,v2.ren (gr _ (hk.1 t x hx))⟩
 ·obtain ⟨k0,b0,a1,a2,a3,a4⟩:=sL hn hb;subst a4;have:=(r.bx k0 b0 a1).ren (g':=g2) (f:=kO K K') (gr [k0] (by simpa using fun e=>a3 e.symm)) (gr _ (hk.2 k0 b0 a3 a1))
  rw[←ph k0 a3,a2] at this;exact this
 ·obtain ⟨k0,b0,a1,a2,a3,a4⟩:=sL hn hb;obtain ⟨k1,b1,c1,c2,c3,c4⟩:=sL hn hb';rw[←a2,←c2,ph k0 a3,ph k1 c3];exact r.dj k0 k1 b0 b1 a1 c1 (fun e=>hne (by rw[←a2,←c2,e]))
 ·obtain ⟨k0,b0,a1,a2,a3,a4⟩:=sL hn hb;rw[←a2,ph k0 a3];exact r.nf k0 b0 a1
 ·obtain ⟨k0,b0,a1,a2,a3,a4⟩:=sL hn hb;rw[←a2,ph k0 a3] at hi;rcases r.jD k0 b0 a1 i hi with c|c
  ·left;have hkK:k0≠K:=fun e=>by have:=c.1;rw[e,hp] at this;cases this
   rw[←a2,Df,if_neg hkK];exact c
  ·exact .inr c
 ·have hne:k≠K':=fun e=>by rw[e,hp'] at hk';cases hk'
  intro j hj;have ej:j=k:=by simpa using hj
  subst ej;obtain ⟨a1,a2,a3⟩:=r.pin j hk' j (by simp)
  exact ⟨(if_neg hne).trans a1,(if_neg hne).trans a2,(if_neg hne).trans a3⟩
def xk (K sz:Nat) (x:AV):AV:=match x with| .aR=>.ms K sz 0 0|x=>x
def Rw (cs:bw) (k K sz:Nat):Nat→List AV→List AV
 |_,[]=> []
 |i,x::l=>sel (cs.any fun q=>Nat.beq q.1 k&&Nat.beq q.2 i) (xk K sz x) x::Rw cs k K sz (i+1) l
def Ge (cs:bw) (K sz k:Nat) (b:Bx):Bx:=match b with| .flat e l=>.flat e (Rw cs k K sz 0 l)| .hole e s Q i x=>.hole e s Q i (sel (cs.any fun q=>Nat.beq q.1 k) (xk K sz x) x)|b=>b
def LS.born (s:LS) (ts:List Nat) (cs:bw) (K:Nat) (z:Bool) (e sz:Nat):LS:=
 ⟨s.ts.map fun p=>(p.1,sel (cc p.1 ts) (xk K sz p.2) p.2),(s.set K (.rows z e sz [])).bs.map fun p=>(p.1,Ge cs K sz p.1 p.2)⟩
theorem zx {K sz:Nat} {v:SV} {x:AV} (hb:g.β K=false) (h:VA F g v x):VA F g v (xk K sz x):=by
 unfold xk;split
 ·cases h;exact .msN sz hb
 ·exact h
theorem KV {cs:bw} {k K sz:Nat} (hb:g.β K=false):∀{xs:List AV} {vs:List SV} {i:Nat},VAs F g vs xs→VAs F g vs (Rw cs k K sz i xs)
 | [],_,_,h=>h
 |x::l,_,i,.cons h t=>by
  refine .cons ?_ (KV hb t);rw[aC];split
  ·exact zx hb h
  ·exact h
theorem Z3 {cs:bw} {K sz k:Nat} {hp:Hf} {b:Bx} {fp:List Nat} (hb:g.β K=false) (q:du F g hp k b fp):du F g hp k (Ge cs K sz k b) fp:=by
 unfold Ge;split
 ·cases q with|flat hh q=>exact .flat hh (KV hb q)
 ·cases q with|hole hb0 hh hu hc q hi hv hx=>
  refine .hole hb0 hh hu hc q hi hv ?_;rw[aC];split
  ·exact zx hb hx
  ·exact hx
 ·exact q
theorem dR.born {ts:List Nat} {cs:bw} {K:Nat} {z:Bool} {e sz:Nat} (hk:s.free K) (hp:B.pk K=false):dR B s (s.born ts cs K z e sz):=.mk fun {F g φ tm h} r=>by
 let g2:Gb:=⟨g.ρ,g.κ,fun k=>if k=K then false else g.β k⟩
 have hb:g2.β K=false:=if_pos rfl;have r2:=r.chg (K:=K) (b':=.rows z e sz []) (fo:= []) (fp:= []) (g':=g2) (h':=h) (fun i hi=>by cases hi) (fun i hi=>by cases hi) (fun _ _ _=>rfl) (Nat.le_refl _) r.bd (fun x hx=>.inl hx) (.df hb)
  (.inr ⟨hk,hp,fun k hne j hj=>by
   have:j=k:=by simpa using hj
   subst this;exact ⟨rfl,rfl,if_neg hne⟩⟩)
 refine ⟨F,g2,_,r2.aat (ft:=fun t x=>sel (cc t ts) (xk K sz x) x) (fb:=fun k b=>Ge cs K sz k b) (fun t=> ?_) (fun t v x hv=> ?_) fun k b fp q=>Z3 hb q⟩
 ·rw[aC];split<;>rfl
 ·rw[aC];split
  ·exact zx hb hv
  ·exact hv
theorem WB.cut {z:Bool} {e:TypeId} {sz u:Nat} {Q:List (List AV)}:WB (.rows z e sz Q) (.rows false e sz (Q.take u)):=fun F g h K fp q=>by
 cases q with
 |df hb=>rw[List.take_nil];exact .df hb
 | @rows _ _ _ _ svs hb hh hz hu hc q=>
  have hle:(Q.take u).length≤Q.length:=by rw[List.length_take];exact Nat.min_le_right _ _
  refine .rows hb hh (fun e=>by cases e) (fun r hr=>hu r (List.mem_of_mem_take hr)) ?_ ?_
  ·cases hκ:g.κ K with
   |k m=>rw[hκ] at hc;exact ⟨Nat.le_trans hle hc.1,hc.2⟩
   |u e'=>rw[hκ] at hc;exact ⟨hc.1,Nat.le_trans (Nat.mul_le_mul_right _ hle) hc.2⟩
  ·have:=q.take ((Q.take u).length*sz);rw[List.take_take,Nat.min_eq_left (Nat.mul_le_mul_right _ hle),←iM hu] at this;have e1:Q.take (Q.take u).length=Q.take u:=by
    rw[List.length_take];by_cases hc:u≤Q.length
    ·rw[Nat.min_eq_left hc]
    ·rw[Nat.min_eq_right (by omega),List.take_length,List.take_of_length_le (by omega)]
   rw[e1] at this;exact this
theorem yj {vs:List SV} {i:Nat} {v:SV} (h:vs[i]? =some v):bI vs i [v]=vs:=by
 obtain ⟨hlt,he⟩:=List.getElem?_eq_some_iff.1 h;show vs.take i++ [v]++vs.drop (i+1)=vs;rw[←he,List.append_assoc];show vs.take i++(vs[i]::vs.drop (i+1))=vs;rw[←List.drop_eq_getElem_cons hlt,List.take_append_drop]
theorem WB.opn {z:Bool} {e:TypeId} {j:Nat} {Q:List (List AV)} {x:AV} (hj:Q[j]? =some [x]) (hk:(bW x).isEmpty=true):WB (.rows z e 1 Q) (.hole e 1 (Q.set j [.undef]) (j*1+0) x):=fun F g h K fp q=>by
 have hlt:j<Q.length:=(List.getElem?_eq_some_iff.1 hj).1;cases q with
 |df hb=>cases hlt
 | @rows _ _ _ _ svs hb hh hz hu hc q=>
  have hfl:Q.flatten[j*1+0]? =some x:=DN hu hj rfl;have hlen:=gj hc;obtain ⟨v,v1,v2⟩:=q.get hfl;rw[List.getElem?_take,if_pos (by omega)] at v1
  refine .hole (v:=v) hb hh (fun r hr=> ?_) (by rw[List.length_set];exact hc) ?_ (by rw[List.length_set];omega) v1 (v2.gf hk)
  ·rcases List.mem_or_eq_of_mem_set hr with hr|rfl
   ·exact hu r hr
   ·rfl
  ·have e0:Q.set j [.undef]=Q.set j (bZ [x] 0 [.undef]):=rfl;rw[List.length_set,e0,nD hu hj (by simp)]
   have hv':(svs.take (Q.length*1))[j*1+0]? =some v:=by rw[List.getElem?_take,if_pos (by omega)];exact v1
   have:=js q (VAs.one (F:=F) (g:=.no) (.undef v)) (j*1+0);rwa[yj hv'] at this
theorem WB.clo {e:TypeId} {sz j f:Nat} {Q:List (List AV)} {R:List AV} {x:AV} (hj:Q[j]? =some R) (hf:f+1≤sz) (hk:(bW x).isEmpty=true):WB (.hole e sz Q (j*sz+f) x) (.rows false e sz (Q.set j (bZ R f [x]))):=fun F g h K fp q=>by
 cases q with
 | @hole _ _ _ _ _ svs v hb hh hu hc q hi hv hx=>
  have hlt:j<Q.length:=(List.getElem?_eq_some_iff.1 hj).1;have hR:R.length=sz:=hu R (List.mem_of_getElem? hj);refine .rows hb hh (fun e=>by cases e) (fun r hr=> ?_) (by rw[List.length_set];exact hc) ?_
  ·rcases List.mem_or_eq_of_mem_set hr with hr|rfl
   ·exact hu r hr
   ·rw[mH (by simp;omega)];exact hR
  ·rw[List.length_set,nD hu hj (by simpa using hf)]
   have hv':(svs.take (Q.length*sz))[j*sz+f]? =some v:=by rw[List.getElem?_take,if_pos hi];exact hv
   have:=js q (VAs.one (hx.gf (g':=.no) hk)) (j*sz+f);rwa[yj hv'] at this
def aao {α:Type} (l:List (Nat×α)):List (Nat×α):=match l with| []=> []|p::l=>p::cH p.1 l
theorem JL {α:Type} (k:Nat) (l:List (Nat×α)):lk k (aao l)=lk k l:=by
 cases l with
 |nil=>rfl
 |cons p l=>
  show lk k ((p.1,p.2)::cH p.1 l)=lk k ((p.1,p.2)::l);rw[br,br,er];split
  ·rfl
  ·rfl
def PH {α:Type}:List (Nat×α)→List (Nat×α)
 | []=> []
 |p::l=>p::cH p.1 (PH l)
theorem Dv {α:Type} (k:Nat):∀l:List (Nat×α),lk k (PH l)=lk k l
 | []=>rfl
 |p::l=>by
  show lk k ((p.1,p.2)::cH p.1 (PH l))=lk k ((p.1,p.2)::l);rw[br,br,er,Dv k l];split
  ·rfl
  ·rfl
def LS.tidy (s:LS):LS:=⟨aao s.ts,PH s.bs⟩
theorem oz.FD (h1:∀t,lk t s'.ts=lk t s.ts) (h2:∀k,lk k s'.bs=lk k s.bs):oz s s':=⟨fun t y hy=>.inr ⟨y,by rw[←h1];exact hy,WV.refl y⟩,fun k b hb=>⟨b,by rw[←h2];exact hb,WB.refl b⟩⟩
theorem LS.qM:oz s s.tidy:=oz.FD (fun t=>JL t _) fun k=>Dv k _
def JB (N:Nat×Nat):List (Nat×Nat)→Option (List Ob)
 | []=>some []
 |q::l=>sel (Nat.beq q.1 N.1) (ai (JB N l) fun o=>some (obN q.2 N.2::o)) none
theorem N9 {N:Nat×Nat}:∀{l:List (Nat×Nat)} {o:List Ob},JB N l=some o→cu o→∀q∈l,q=N
 | [],_,_,_,q,hq=>by cases hq
 |p::l,o,h,ho,q,hq=>by
  obtain ⟨h1,h⟩:=av (show sel (Nat.beq p.1 N.1) (ai (JB N l) fun o=>some (obN p.2 N.2::o)) none=some o from h)
  obtain ⟨o',h2,h⟩:=af h;cases h;rcases List.mem_cons.1 hq with e|hq
  ·subst e;have e1:q.1=N.1:=(beq_iff _ _).1 h1;have e2:=eI ho.1;exact Prod.ext e1 e2
  ·exact N9 h2 ho.2 q hq
def getM {α:Type} (d:α) (t:Nat) (l:List (Nat×α)):α:= @Option.rec α (fun _=>α) d (fun x=>x) (lk t l)
def LS.norm (s:LS) (ts:List (Nat×PM)) (bs:List (Nat×PB)):LS:=⟨s.ts.map fun p=>(p.1,(getM (.one .same) p.1 ts).app p.2),s.bs.map fun p=>(p.1,(getM .same p.1 bs).app p.2)⟩
theorem PM.E7 (m:PM):m.app .undef= .undef:=by
 cases m with
 |one m=>cases m<;>rfl
 |agg ms=>rfl
theorem dR.norm {ts:List (Nat×PM)} {bs:List (Nat×PB)}:dR B s (s.norm ts bs):=.mk fun {F g φ tm h} r=>⟨F,g,φ,r.aat (ft:=fun t x=>(getM (PM.one P1.same) t ts).app x) (fb:=fun k b=>(getM PB.same k bs).app b) (fun t=>PM.E7 _) (fun t v x hv=>PM.va _ hv) fun k b fp q=>PB.wb _ b _ _ _ _ _ q⟩
def FP (E:Env) (pks:List Nat) (s:LS) (it:It E):Option (LS×List Ob):=
 match it with
 | @It.frz _ Q n K _=>ai (lk K s.bs) fun b=>(match b with
  | .rows z e sz Q'=>sel (!cc K pks) (ai (JB (sz,n) (yS K s.ts++rX K s.bs)) fun o=>some (s.frz K (sel z (.sln e sz Q) (.slice e sz Q)) (fun _=>.undef),obR Q' Q::o)) none
  |_=>none)
 | .frf K=>ai (lk K s.bs) fun b=>(match b with
  | .flat e cs=>sel ((cI cs).isEmpty&&(!cc K pks&&(yS K s.ts++rX K s.bs).isEmpty)) (some (s.frz K .undef (fun off=>sel (Nat.ble off cs.length) (.imm (cs.drop off)) .undef),[])) none
  |_=>none)
 | .ren K K'=>sel (jq pks s K'&&((lk K' s.bs).isNone && !cc K pks)) (some (s.ren K K',[])) none
 | @It.shr _ Q P u K _=>ai (lk K s.bs) fun b=>(match b with
  | .rows _ e sz Q'=>some (⟨s.ts,(K,.rows false e sz P)::cH K s.bs⟩,[obR Q' Q])
  |_=>none)
 | @It.opn _ Q j x Q' K _ _=>ai (lk K s.bs) fun b=>(match b with
  | .rows _ e sz Q0=>sel (bW x).isEmpty (some (⟨s.ts,(K,.hole e 1 Q' (Nat.add (Nat.mul j 1) 0) x)::cH K s.bs⟩,[obR Q0 Q,obN sz 1])) none
  |_=>none)
 | @It.clo _ Q j R f x Q' K _ _=>ai (lk K s.bs) fun b=>(match b with
  | .hole e sz Q0 i0 x0=>sel ((bW x0).isEmpty&&Nat.ble (Nat.add f 1) sz) (some (⟨s.ts,(K,.rows false e sz Q')::cH K s.bs⟩,[obR Q0 Q,(.loc 0 i0,.loc 0 (Nat.add (Nat.mul j sz) f)),(x0,x)])) none
  |_=>none)
 | .born ts cs K z e sz=>sel (jq pks s K) (some (s.born ts cs K z e sz,[])) none
 | .norm ts bs=>some (s.norm ts bs,[])
 | @It.seq _ x y t _=>ai (lk t s.ts) fun x'=>some (⟨(t,y)::cH t s.ts,s.bs⟩,[(x',x)])
 | @It.beq _ x y K _=>ai (lk K s.bs) fun x'=>some (⟨s.ts,(K,y)::cH K s.bs⟩,[(bxA x',bxA x)])
 |_=>none
theorem Zo {pks:List Nat} {it:It E} {p:LS×List Ob} (hB:BOK pks B) (h:FP E pks s it=some p) (ho:cu p.2):dR B s p.1:=by
 cases it with
 | @frz Q n K hQ=>
  subst hQ;obtain ⟨b,h1,h⟩:=af (show ai (lk K s.bs) (fun b=>(match b with
   | .rows z e sz Q'=>sel (!cc K pks) (ai (JB (sz,Q.length) (yS K s.ts++rX K s.bs)) fun o=>some (s.frz K (sel z (.sln e sz Q) (.slice e sz Q)) (fun _=>.undef),obR Q' Q::o)) none
   |_=>none))=some p from h)
  split at h
  ·rename_i z e sz Q';obtain ⟨h2,h⟩:=av h;obtain ⟨o,h3,h⟩:=af h;cases h;obtain ⟨o1,o2⟩:=ho;have e1:=eQ o1;subst e1;refine .mk fun {F g φ tm h} r=> ?_
   have ed:(sel z (.sln e sz Q') (.slice e sz Q'):AV)=oq (.rows z e sz Q'):=by cases z<;>rfl
   obtain ⟨F',_,r'⟩:=r.frz (K:=K) (b:=.rows z e sz Q') (D:=oq (.rows z e sz Q')) (L:=Zv (.rows z e sz Q')) (sz:=sz) (m:=Q'.length) h1 (hB K (by simpa using h2)) (N9 h3 o2) fun F' hF hi q=>sS hF rfl hi q
   refine ⟨F',g,φ,?_⟩;rw[ed];exact r'
  ·cases h
 |frf K=>
  obtain ⟨b,h1,h⟩:=af (show ai (lk K s.bs) (fun b=>(match b with
   | .flat e cs=>sel ((cI cs).isEmpty&&(!cc K pks&&(yS K s.ts++rX K s.bs).isEmpty)) (some (s.frz K .undef (fun off=>sel (Nat.ble off cs.length) (.imm (cs.drop off)) .undef),[])) none
   |_=>none))=some p from h)
  split at h
  ·rename_i e cs;obtain ⟨h2,h⟩:=av h;cases h;rw[Bool.and_eq_true,Bool.and_eq_true] at h2;refine .mk fun {F g φ tm h} r=> ?_
   obtain ⟨F',_,r'⟩:=r.frz (K:=K) (b:=.flat e cs) (D:=oq (.flat e cs)) (L:=Zv (.flat e cs)) (sz:=(QN (.flat e cs)).1) (m:=(QN (.flat e cs)).2) h1 (hB K (by simpa using h2.2.1)) (fun q hq=>by rw[List.isEmpty_iff.1 h2.2.2] at hq;cases hq) fun F' hF hi q=>sS hF h2.1 hi q
   exact ⟨F',g,φ,r'⟩
  ·cases h
 |ren K K'=>
  obtain ⟨h1,h⟩:=av (show sel (jq pks s K'&&((lk K' s.bs).isNone && !cc K pks)) (some (s.ren K K',[])) none=some p from h);cases h;simp only[Bool.and_eq_true] at h1;obtain ⟨k1,k2,k3⟩:=h1;obtain ⟨f1,f2⟩:=kr hB k1;exact dR.ren f1 (hB K (by simpa using k3)) f2 (by simpa using k2)
 | @shr Q P u K hP=>
  subst hP;obtain ⟨b,h1,h⟩:=af (show ai (lk K s.bs) (fun b=>(match b with
   | .rows _ e sz Q'=>some (⟨s.ts,(K,.rows false e sz (Q.take u))::cH K s.bs⟩,[obR Q' Q])
   |_=>none))=some p from h)
  split at h
  ·rename_i z e sz Q';cases h;have e1:=eQ ho.1;subst e1;refine dR.less ⟨fun t y hy=>.inr ⟨y,hy,WV.refl y⟩,fun k c hc=> ?_⟩
   have hc:lk k ((K,Bx.rows false e sz (Q'.take u))::cH K s.bs)=some c:=hc;rw[br,er] at hc;split at hc
   ·rename_i e;cases hc;exact ⟨_,e ▸ h1,WB.cut⟩
   ·exact ⟨c,hc,WB.refl c⟩
  ·cases h
 | @opn Q j x Q' K hj hQ=>
  subst hQ;obtain ⟨b,h1,h⟩:=af (show ai (lk K s.bs) (fun b=>(match b with
   | .rows _ e sz Q0=>sel (bW x).isEmpty (some (⟨s.ts,(K,.hole e 1 (Q.set j [.undef]) (Nat.add (Nat.mul j 1) 0) x)::cH K s.bs⟩,[obR Q0 Q,obN sz 1])) none
   |_=>none))=some p from h)
  split at h
  ·rename_i z e sz Q0;obtain ⟨h2,h⟩:=av h;cases h;obtain ⟨o1,o2,_⟩:=ho;have e1:=eQ o1;have e2:=eI o2;subst e1;subst e2;refine dR.less ⟨fun t y hy=>.inr ⟨y,hy,WV.refl y⟩,fun k c hc=> ?_⟩
   have hc:lk k ((K,Bx.hole e 1 (Q0.set j [.undef]) (Nat.add (Nat.mul j 1) 0) x)::cH K s.bs)=some c:=hc;rw[br,er] at hc;split at hc
   ·rename_i e;cases hc;exact ⟨_,e ▸ h1,WB.opn hj h2⟩
   ·exact ⟨c,hc,WB.refl c⟩
  ·cases h
 | @clo Q j R f x Q' K hj hQ=>
  subst hQ;obtain ⟨b,h1,h⟩:=af (show ai (lk K s.bs) (fun b=>(match b with
   | .hole e sz Q0 i0 x0=>sel ((bW x0).isEmpty&&Nat.ble (Nat.add f 1) sz) (some (⟨s.ts,(K,.rows false e sz (Q.set j (bZ R f [x])))::cH K s.bs⟩,[obR Q0 Q,(.loc 0 i0,.loc 0 (Nat.add (Nat.mul j sz) f)),(x0,x)])) none
   |_=>none))=some p from h)
  split at h
  ·rename_i e sz Q0 i0 x0;obtain ⟨h2,h⟩:=av h;cases h;obtain ⟨o1,o2,o3,_⟩:=ho;have e1:=eQ o1;injection o2 with _ o2
   have o3:x0=x:=o3;rw[Bool.and_eq_true] at h2;subst e1;subst o2;subst o3;refine dR.less ⟨fun t y hy=>.inr ⟨y,hy,WV.refl y⟩,fun k c hc=> ?_⟩
   have hc:lk k ((K,Bx.rows false e sz (Q0.set j (bZ R f [x0])))::cH K s.bs)=some c:=hc;rw[br,er] at hc;split at hc
   ·rename_i e;cases hc;exact ⟨_,e ▸ h1,WB.clo hj (Nat.le_of_ble_eq_true h2.2) h2.1⟩
   ·exact ⟨c,hc,WB.refl c⟩
  ·cases h
 |born ts cs K z e sz=>
  obtain ⟨h1,h⟩:=av (show sel (jq pks s K) (some (s.born ts cs K z e sz,[])) none=some p from h);cases h;obtain ⟨f1,f2⟩:=kr hB h1;exact dR.born f1 f2
 |norm ts bs=>cases h;exact dR.norm
 | @seq x y t he=>
  obtain ⟨x',h1,h⟩:=af (show ai (lk t s.ts) (fun x'=>some (⟨(t,y)::cH t s.ts,s.bs⟩,[(x',x)]))=some p from h)
  cases h;have e1:x'=x:=ho.1;subst he;subst e1;refine dR.less (oz.FD (fun k=> ?_) fun _=>rfl)
  show lk k ((t,x')::cH t s.ts)=_;rw[br,er];split
  ·rename_i e;rw[e,h1]
  ·rfl
 | @beq x y K he=>
  obtain ⟨x',h1,h⟩:=af (show ai (lk K s.bs) (fun x'=>some (⟨s.ts,(K,y)::cH K s.bs⟩,[(bxA x',bxA x)]))=some p from h)
  cases h;have e1:x'=x:=By ho.1;subst he;subst e1;refine dR.less (oz.FD (fun _=>rfl) fun k=> ?_)
  show lk k ((K,x')::cH K s.bs)=_;rw[br,er];split
  ·rename_i e;rw[e,h1]
  ·rfl
 |_=>cases h
abbrev Sc (E:Env):=List (Nat×It E)
def gho (E:Env) (pks:List Nat):Sc E→LS→List Ob→LS×List Ob×Sc E
 | [],s,o=>(s,o,[])
 |p::l,s,o=>match p.1 with
  |0=>(match FP E pks s p.2 with
   |some q=>gho E pks l q.1 (q.2++o)
   |none=>(s,o,p::l))
  |_+1=>(s,o,p::l)
theorem vM {pks:List Nat} (hB:BOK pks B):∀(sc:Sc E) (s:LS) (o:List Ob),cu (gho E pks sc s o).2.1→cu o∧dR B s (gho E pks sc s o).1
 | [],s,o,ho=>⟨ho,dR.refl⟩
 |(0,it)::l,s,o,ho=>by
  have e:gho E pks ((0,it)::l) s o=(match FP E pks s it with
   |some q=>gho E pks l q.1 (q.2++o)
   |none=>(s,o,(0,it)::l)):=rfl
  rw[e] at ho ⊢;cases hq:FP E pks s it with
  |some q=>
   rw[hq] at ho;obtain ⟨h1,h2⟩:=vM hB l q.1 (q.2++o) ho;obtain ⟨h3,h4⟩:=jt h1;exact ⟨h4,(Zo hB hq h3).trans h2⟩
  |none=>
   rw[hq] at ho;exact ⟨ho,dR.refl⟩
 |(k+1,it)::l,s,o,ho=>⟨ho,dR.refl⟩
def PG:List (Nat×Bx)→List (Nat×Bx)→Option (List Ob)
 | [],[]=>some []
 |p::l,q::m=>sel (Nat.beq p.1 q.1) (ai (PG l m) fun o=>some ((bxA p.2,bxA q.2)::o)) none
 |_,_=>none
theorem Oa:∀{l m:List (Nat×Bx)} {o:List Ob},PG l m=some o→cu o→l=m
 | [],[],_,_,_=>rfl
 | [],_::_,_,h,_=>by cases h
 |_::_,[],_,h,_=>by cases h
 |p::l,q::m,o,h,ho=>by
  obtain ⟨h1,h⟩:=av (show sel (Nat.beq p.1 q.1) (ai (PG l m) fun o=>some ((bxA p.2,bxA q.2)::o)) none=some o from h)
  obtain ⟨o',h2,h⟩:=af h;cases h;have e1:p.1=q.1:=(beq_iff _ _).1 h1;have e2:p.2=q.2:=By ho.1;rw[Oa h2 ho.2,Prod.ext e1 e2]
def Pf (pks:List Nat) (s:LS):bw→Bool
 | []=>true
 |q::l=>jq pks s q.1&&((lk q.1 s.bs).isNone&&Pf pks s l)
theorem NC {pks:List Nat} (hB:BOK pks B):∀{rs:bw},Pf pks s rs=true→∀q∈rs,s.free q.1∧B.pk q.1=false∧lk q.1 s.bs=none
 | [],_,q,hq=>by cases hq
 |p::l,h,q,hq=>by
  have h:(jq pks s p.1&&((lk p.1 s.bs).isNone&&Pf pks s l))=true:=h;rw[Bool.and_eq_true,Bool.and_eq_true] at h;rcases List.mem_cons.1 hq with e|hq
  ·subst e;obtain ⟨f1,f2⟩:=kr hB h.1;exact ⟨f1,f2,by simpa using h.2.1⟩
  ·exact NC hB h.2.2 q hq
def Gd (pks:List Nat) (s:LS) (op:Op) (f:Nat) (bs bs':List (Nat×Bx)) (xs:List AV) (y:AV) (ms:List PM) (ps rs:bw):Option (List (Nat×Bx)×AV×List Ob):=
 ai (dx op) fun c=>(match c.callee with
  | .value o=>(match aJ s.ts o with
   | .fn f' fi ca=>sel (Nat.beq f' f&&(eR (fQ s.ts c.args.toList)&&(oT (ps++rs)&&(oO s.bs ps ps&&(eT ps (cI (fi++fQ s.ts c.args.toList++ca))&&(Pf pks s rs&&(oM bs' (ps++rs) (ps++rs)&&eT (j8 (ps++rs)) (bW y))))))))
    (aF (oI s.bs (ps++rs) ps) (tD bs' (ps++rs) (ps++rs)) fun b ob=>ai (PG b bs) fun o=>some (ob,kP (foP (ps++rs)) y,(.agg (Gj ms (ir (fiP (ps++rs)) (fi++fQ s.ts c.args.toList++ca))),.agg xs)::o)) none
   |_=>none)
  |_=>none)
theorem Bv {pks:List Nat} {op:Op} {f:Nat} {bs bs':List (Nat×Bx)} {xs:List AV} {y:AV} {ms:List PM} {ps rs:bw} {q:List (Nat×Bx)×AV×List Ob} (hB:BOK pks B) (h:Gd pks s op f bs bs' xs y ms ps rs=some q) (ho:cu q.2.2) (hC:bC E f bs xs y bs'):
  ∃c o fi ca,dx op=some c∧c.callee= .value o∧aJ s.ts o= .fn f fi ca∧eR (fQ s.ts c.args.toList)=true∧oT (ps++rs)=true∧oI s.bs (ps++rs) ps=some bs∧oO s.bs ps ps=true∧eT ps (cI (fi++fQ s.ts c.args.toList++ca))=true∧(∀q∈rs,s.free q.1∧B.pk q.1=false∧lk q.1 s.bs=none)∧
   bC E f bs (ir (fiP (ps++rs)) (fi++fQ s.ts c.args.toList++ca)) y bs'∧tD bs' (ps++rs) (ps++rs)=some q.1∧oM bs' (ps++rs) (ps++rs)=true∧eT (j8 (ps++rs)) (bW y)=true∧q.2.1=kP (foP (ps++rs)) y:=by
 unfold Gd at h;obtain ⟨c,h1,h⟩:=af h;split at h
 ·rename_i o hc;split at h
  ·rename_i f' fi ca hf;obtain ⟨h2,h⟩:=av h;obtain ⟨b,ob,h3,h4,h⟩:=ay h;obtain ⟨o',h5,h⟩:=af h;cases h;simp only[Bool.and_eq_true] at h2;obtain ⟨k1,k2,k3,k4,k5,k6,k7,k8⟩:=h2;have e1:f'=f:=(beq_iff _ _).1 k1;subst e1;obtain ⟨o1,o2⟩:=ho;have e2:=Oa h5 o2;subst e2;have e3:Gj ms (ir (fiP (ps++rs)) (fi++fQ s.ts c.args.toList++ca))=xs:=by
    have:=o1;simpa using this
   exact ⟨c,o,fi,ca,h1,hc,hf,k2,k3,h3,k4,k5,NC hB k6,.mk fun ent has=>hC.go ent (e3 ▸ Lf has),h4,k7,k8,rfl⟩
  ·cases h
 ·cases h
abbrev ng (E:Env):=Option (LS×List Ob×Sc E)
def yJ (E:Env) (pks:List Nat) (p:Oper) (s:LS) (sc:Sc E) (o:List Ob) (ih:LS→Sc E→List Ob→ng E):ng E:=
 sel (sF p.op) (ai (nM E pks s p.op p.dst) fun r=>ih (r.1.aY p.dst r.2.1).tidy sc (r.2.2.2++o)) none
def Dc (E:Env) (pks:List Nat) (p:Oper) (s:LS) (it:It E) (sc:Sc E) (o:List Ob) (ih:LS→Sc E→List Ob→ng E):ng E:=
 match it with
 | @It.call _ f bs bs' xs y _ ms ps rs=>ai (Gd pks s p.op f bs bs' xs y ms ps rs) fun q=>ih (LS.aY ⟨s.ts,q.1++s.bs⟩ p.dst q.2.1).tidy sc (q.2.2++o)
 |it=>sel (sF p.op) (ai (O5 E pks s p.op p.dst it) fun r=>ih (r.1.aY p.dst r.2.1).tidy sc (r.2.2.2++o)) none
def NB (E:Env) (pks:List Nat) (p:Oper) (s:LS) (sc:Sc E) (o:List Ob) (ih:LS→Sc E→List Ob→ng E):ng E:=
 match sc with
 | []=>yJ E pks p s [] o ih
 |q::l=>(match q.1 with
  |0=>Dc E pks p s q.2 l o ih
  |k+1=>yJ E pks p s ((k,q.2)::l) o ih)
def Pd (E:Env) (nt:Nat) (pks:List Nat) (all:List Oper) (p:Oper) (ih:LS→Sc E→List Ob→ng E) (q:LS×List Ob×Sc E):ng E:=
 sel (bX nt p.dst) (ai (jy all p q.1.ts) fun w=>sel w (NB E pks p q.1 q.2.2 q.2.1 ih) (ih (q.1.aY p.dst (.tup [])).tidy q.2.2 q.2.1)) none
def IU (E:Env) (nt:Nat) (pks:List Nat) (all:List Oper):List Oper→LS→Sc E→List Ob→ng E
 | []=>fun s sc o=>some (s,o,sc)
 |p::l=>fun s sc o=>Pd E nt pks all p (IU E nt pks all l) (gho E pks sc s o)
def BM (E:Env) (nt:Nat) (B:Bs) (all l:List Oper) (ih:LS→Sc E→List Ob→ng E):Prop:=
 ∀s sc o r,ih s sc o=some r→cu r.2.1→cu o∧gY E nt B all l s r.1
theorem yk {pks:List Nat} {p:Oper} {sc:Sc E} {o:List Ob} {ih:LS→Sc E→List Ob→ng E} {r:LS×List Ob×Sc E} (hB:BOK pks B) (hih:BM E nt B all l ih) (hd:bX nt p.dst=true) (hw:jy all p s.ts=some true) (h:yJ E pks p s sc o ih=some r) (ho:cu r.2.1):cu o∧gY E nt B all (p::l) s r.1:=by
 obtain ⟨h1,h⟩:=av h;obtain ⟨q,h2,h⟩:=af h;obtain ⟨k1,k2⟩:=hih _ _ _ _ h ho;obtain ⟨k3,k4⟩:=jt k1;exact ⟨k4,.op hd hw h1 (qP hB h2 k3) (.ghost (dR.less LS.qM) k2)⟩
theorem Pe {pks:List Nat} {p:Oper} {it:It E} {sc:Sc E} {o:List Ob} {ih:LS→Sc E→List Ob→ng E} {r:LS×List Ob×Sc E} (hB:BOK pks B) (hih:BM E nt B all l ih) (hd:bX nt p.dst=true) (hw:jy all p s.ts=some true) (h:Dc E pks p s it sc o ih=some r) (ho:cu r.2.1):cu o∧gY E nt B all (p::l) s r.1:=by
 unfold Dc at h;split at h
 ·rename_i f bs bs' xs y hC ms ps rs;obtain ⟨q,h2,h⟩:=af h;obtain ⟨k1,k2⟩:=hih _ _ _ _ h ho;obtain ⟨k3,k4⟩:=jt k1;obtain ⟨c,w,fi,ca,c1,c2,c3,c4,c5,c6,c7,c8,c9,c10,c11,c12,c13,c14⟩:=Bv hB h2 k3 hC;exact ⟨k4,.call hd hw c1 c2 c3 rfl c4 c5 c6 c7 c8 c9 c10 c11 c12 c13 (.ghost (dR.less LS.qM) (c14 ▸ k2))⟩
 ·obtain ⟨h1,h⟩:=av h;obtain ⟨q,h2,h⟩:=af h;obtain ⟨k1,k2⟩:=hih _ _ _ _ h ho;obtain ⟨k3,k4⟩:=jt k1;exact ⟨k4,.op hd hw h1 (HC hB h2 k3) (.ghost (dR.less LS.qM) k2)⟩
theorem Yf {pks:List Nat} {p:Oper} {ih:LS→Sc E→List Ob→ng E} (hB:BOK pks B) (hih:BM E nt B all l ih):BM E nt B all (p::l) (fun s sc o=>Pd E nt pks all p ih (gho E pks sc s o)):=by
 intro s sc o r h ho;have key:∀q:LS×List Ob×Sc E,Pd E nt pks all p ih q=some r→cu q.2.1∧gY E nt B all (p::l) q.1 r.1:=fun q h=>by
  obtain ⟨hd,h⟩:=av h;obtain ⟨w,hw,h⟩:=af h;rw[aC] at h;split at h
  ·rename_i e;subst e;unfold NB at h;split at h
   ·exact yk hB hih hd hw h ho
   ·split at h
    ·exact Pe hB hih hd hw h ho
    ·exact yk hB hih hd hw h ho
  ·rename_i e;have e:w=false:=by simpa using e
   subst e;obtain ⟨k1,k2⟩:=hih _ _ _ _ h ho;exact ⟨k1,.skip hd hw (.ghost (dR.less LS.qM) k2)⟩
 obtain ⟨k1,k2⟩:=key _ h;obtain ⟨k3,k4⟩:=vM hB sc s o k1;exact ⟨k3,.ghost k4 k2⟩
theorem Ev {pks:List Nat} (hB:BOK pks B):∀l:List Oper,BM E nt B all l (IU E nt pks all l)
 | []=>fun s sc o r h ho=>by
  have h:some (s,o,sc)=some r:=h;cases h;exact ⟨ho,.nil⟩
 |p::l=>Yf hB (Ev hB l)
end
section
variable {F F':Hf} {g g':Gb} {B:Bs} {φ:Nat→List Nat} {s s' s1:LS} {tm:Tr SV} {h:Hs} {hp:Hf} {E:Env} {nt:Nat}
variable {W cur nc M:Nat} {vs vs':List LS} {laid:bw} {pis:List PI} {all l:List Oper} {o:Oper}
theorem DR.same {base:Nat} {pp:List (Rc×PI)} {Fs:Nat→Hf} {lim:Nat→Nat} {tm:Tf} (D:DR B base W cur nc vs laid pp g φ Fs lim tm h) (hl:vs'.length=vs.length) (hs:∀(j:Nat) (s':LS),vs'[j]? =some s'→∃s,vs[j]? =some s∧(∀t,lk t s'.ts=lk t s.ts)∧∀k,lk k s'.bs=lk k s.bs):DR B base W cur nc vs' laid pp g φ Fs lim tm h:=by
 refine {D with r:=fun j s hj=> ?_,up:=fun j j' s s' hle h1 h2=> ?_,fb:=fun j s hj=> ?_,bb:=fun j s hj k b hb=> ?_,lm:=fun j s hj=> ?_,top:=hl.trans D.top,pi:=fun q hq=> ?_,pr:=fun q hq j s hj k b hb=> ?_,pf:=fun q hq i hi j s hj=> ?_}
 ·obtain ⟨s0,a,b,c⟩:=hs j s hj;exact (D.r j s0 a).less (oz.FD b c)
 ·obtain ⟨s0,a,b,c⟩:=hs j s h1;obtain ⟨s0',a',b',c'⟩:=hs j' s' h2;obtain ⟨u1,u2⟩:=D.up j j' s0 s0' hle a a';exact ⟨u1,fun k b0 hb=>by rw[c'];exact u2 k b0 (by rw[←c];exact hb)⟩
 ·obtain ⟨s0,a,_,_⟩:=hs j s hj;exact D.fb j s0 a
 ·obtain ⟨s0,a,_,c⟩:=hs j s hj;exact D.bb j s0 a k b (by rw[←c];exact hb)
 ·obtain ⟨s0,a,_,_⟩:=hs j s hj;exact D.lm j s0 a
 ·obtain ⟨p1,p2,p3,p4,p5⟩:=D.pi q hq;refine ⟨p1,p2,p3,p4,fun hn=> ?_⟩
  obtain ⟨q1,q2,q3,q4⟩:=p5 hn;refine ⟨q1,q2,q3,fun j s hj hlt=> ?_⟩
  obtain ⟨s0,a,_,_⟩:=hs j s hj;exact q4 j s0 a hlt
 ·obtain ⟨s0,a,_,c⟩:=hs j s hj;exact D.pr q hq j s0 a k b (by rw[←c];exact hb)
 ·obtain ⟨s0,a,_,_⟩:=hs j s hj;exact D.pf q hq i hi j s0 a
theorem dz.tidy (hl:dz E nt B all W cur nc M (vs.map LS.tidy) laid pis l s'):dz E nt B all W cur nc M vs laid pis l s':=fun {base pp g φ Fs lim tm h} hp D=>hl hp (D.same (List.length_map _) fun j s' hj=>by
 rw[List.getElem?_map] at hj;obtain ⟨s0,a,b⟩:=Option.map_eq_some_iff.1 hj;subst b;exact ⟨s0,a,fun t=>JL t _,fun k=>Dv k _⟩)
structure Dsx where
 cur:Nat
 nc:Nat
 M:Nat
 vs:List LS
 laid:bw
 pis:List PI
def p7 (m nc:Nat):List PI→Nat
 | []=>nc
 |p::l=>sel (dC m p.i) (p7 m nc l) (match p.n with|0=>p7 m nc l|n+1=>sel (Nat.ble n (p7 m nc l)) n (p7 m nc l))
def Au (a b:List Nat):Bool:=a.all fun k=> !cc k b
def AU (v m:Nat) (rk wk:List Nat) (call wn:Bool) (p:PI):Bool:=
 sel (dC m p.i) true ((Nat.beq p.n 0||(Nat.ble (Nat.succ v) p.n&&(!call&&wn)))&&((!call||p.wn)&&(Au wk p.rk&&(Au wk p.wk&&Au rk p.wk))))
theorem vt {a b:List Nat} (h:Au a b=true):∀k∈a,k∉b:=fun k hk hb=>by
 have:=List.all_eq_true.1 h k hk;rw[(dV k b).2 hb] at this;cases this
theorem EL {v m:Nat} {rk wk:List Nat} {call wn:Bool} {p:PI} (h:AU v m rk wk call wn p=true):xV v m rk wk call wn p:=by
 unfold AU at h;rw[aC] at h;split at h
 ·rename_i hb;exact .inl hb
 ·right;simp only[Bool.and_eq_true,Bool.or_eq_true,Bool.not_eq_true'] at h;obtain ⟨h1,h2,h3,h4,h5⟩:=h;refine ⟨fun hn=> ?_,fun hc=> ?_,fun k hk=>⟨vt h3 k hk,vt h4 k hk⟩,vt h5⟩
  ·rcases h1 with h1|⟨h1,h6,h7⟩
   ·exact absurd ((beq_iff _ _).1 h1) hn
   ·exact ⟨Nat.le_of_ble_eq_true h1,h6,h7⟩
  ·rcases h2 with h2|h2
   ·rw[hc] at h2;cases h2
   ·exact h2
def laidB (m:Nat) (ks:List Nat) (laid:bw):Bool:=laid.all fun q=> !cc q.1 ks||dC m q.2
theorem JP {m:Nat} {ks:List Nat} {laid:bw} (h:laidB m ks laid=true):∀k j,k∈ks→(k,j)∈laid→dC m j=true:=fun k j hk hj=>by
 have:=List.all_eq_true.1 h (k,j) hj;simp only[Bool.or_eq_true,Bool.not_eq_true'] at this;rcases this with c|c
 ·rw[(dV k ks).2 hk] at c;cases c
 ·exact c
def wkB (a b:WK):Bool:=
 match a,b with
 |none,none=>true
 |some p,some q=>Nat.beq p.1 q.1&&(p.2==q.2)
 |_,_=>false
theorem aeJ {a b:WK} (h:wkB a b=true):a=b:=by
 unfold wkB at h;split at h
 ·rfl
 ·rw[Bool.and_eq_true] at h;have e1:=(beq_iff _ _).1 h.1;have e2:=beq_iff_eq.1 h.2;rw[Prod.ext e1 e2]
 ·cases h
def Du (f:LS→Option Res) (x:AV) (Wk:WK) (d:Option Nat):List LS→Nat→Option (List LS×List Ob)
 | []=>fun _=>some ([],[])
 |s::l=>fun v=>(match v with
  |0=>aF (f s) (Du f x Wk d l 0) fun r q=>sel (wkB r.2.2.1 Wk) (some (r.1.aY d x::q.1,(r.2.1,x)::(r.2.2.2++q.2))) none
  |v+1=>ai (Du f x Wk d l v) fun q=>some ((s.oP Wk).aY d .undef::q.1,q.2))
theorem Dt {op:Op} {f:LS→Option Res} {x:AV} {Wk:WK} {d:Option Nat} (hf:∀s r,f s=some r→eE E B op s r):∀{vs:List LS} {v:Nat} {q:List LS×List Ob},Du f x Wk d vs v=some q→cu q.2→q.1.length=vs.length∧(∀(j:Nat) (s:LS),vs[j]? =some s→v≤j→∃t,q.1[j]? =some (t.aY d x)∧aP E B op s t x Wk)∧∀(j:Nat) (s:LS),vs[j]? =some s→j<v→q.1[j]? =some ((s.oP Wk).aY d .undef)
 | [],v,q,h,_=>by
  have h:some ([],[])=some q:=h;cases h;exact ⟨rfl,fun j s hj=>by simp at hj,fun j s hj=>by simp at hj⟩
 |s::l,0,q,h,ho=>by
  obtain ⟨r,q',h1,h2,h⟩:=ay (show aF (f s) (Du f x Wk d l 0) (fun r q=>sel (wkB r.2.2.1 Wk) (some (r.1.aY d x::q.1,(r.2.1,x)::(r.2.2.2++q.2))) none)=some q from h)
  obtain ⟨h3,h⟩:=av h;cases h;obtain ⟨o1,o2⟩:=ho;obtain ⟨o3,o4⟩:=jt o2;obtain ⟨i1,i2,i3⟩:=Dt hf h2 o4;refine ⟨by simp[i1],fun j s' hj hle=> ?_,fun j s' hj hlt=>by omega⟩
  cases j with
  |zero=>
   have e:s=s':=by simpa using hj
   subst e;refine ⟨r.1,rfl,?_⟩;have:=hf s r h1 o3;have e1:r.2.1=x:=o1;rw[e1,aeJ h3] at this;exact this
  |succ j=>exact i2 j s' (by simpa using hj) (Nat.zero_le _)
 |s::l,v+1,q,h,ho=>by
  obtain ⟨q',h2,h⟩:=af (show ai (Du f x Wk d l v) (fun q=>some ((s.oP Wk).aY d .undef::q.1,q.2))=some q from h)
  cases h;obtain ⟨i1,i2,i3⟩:=Dt hf h2 ho;refine ⟨by simp[i1],fun j s' hj hle=> ?_,fun j s' hj hlt=> ?_⟩
  ·cases j with
   |zero=>omega
   |succ j=>exact i2 j s' (by simpa using hj) (by omega)
  ·cases j with
   |zero=>
    have e:s=s':=by simpa using hj
    subst e;rfl
   |succ j=>exact i3 j s' (by simpa using hj) (by omega)
abbrev kT (E:Env):=Option (LS×List Ob×Sc E)
def Re (W:Nat) (o:Oper) (d:Dsx) (sc:Sc E) (ob:List Ob) (f:LS→Option Res) (ih:Dsx→Sc E→List Ob→kT E):kT E:=
 ai (d.vs[p7 (cx W d.M o) d.nc d.pis]?) fun sl=>aF (f sl) (sP sl.ts sl.bs o.op) fun r rk=>
  sel (laidB (cx W d.M o) (rk++lh r.2.2.1) d.laid&&d.pis.all (AU (p7 (cx W d.M o) d.nc d.pis) (cx W d.M o) rk (lh r.2.2.1) false (uT r.2.2.1)))
   (ai (Du f r.2.1 r.2.2.1 o.dst d.vs (p7 (cx W d.M o) d.nc d.pis)) fun q=>ih ⟨Nat.succ d.cur,d.nc,mc W d.M d.cur (cx W d.M o),q.1.map LS.tidy,FI r.2.2.1 d.cur d.laid,⟨d.cur,0,rk,lh r.2.2.1,uT r.2.2.1⟩::d.pis⟩ sc (q.2++ob)) none
def Rd (E:Env) (pks:List Nat) (W:Nat) (o:Oper) (d:Dsx) (st:LS) (it:It E) (sc:Sc E) (ob:List Ob) (ih:Dsx→Sc E→List Ob→kT E):kT E:=
 match it with
 | @It.call _ f bs bs' xs y _ ms ps rs=>sel (laidB (cx W d.M o) (ps.map (·.1)) d.laid&&d.pis.all (AU d.nc (cx W d.M o) [] (ps.map (·.1)) true false))
   (ai (Gd pks st o.op f bs bs' xs y ms ps rs) fun q=>ih ⟨Nat.succ d.cur,Nat.succ d.nc,mc W d.M d.cur (cx W d.M o),((d.vs.map fun s=>(s.oQ ps rs).aY o.dst .undef)++ [LS.aY ⟨st.ts,q.1++st.bs⟩ o.dst q.2.1]).map LS.tidy,d.laid,⟨d.cur,Nat.succ d.nc,[],ps.map (·.1),false⟩::d.pis⟩ sc (q.2.2++ob)) none
 |it=>sel (dx o.op).isNone (Re W o d sc ob (fun s=>O5 E pks s o.op o.dst it) ih) none
def Rb (E:Env) (pks:List Nat) (W:Nat) (o:Oper) (d:Dsx) (sc:Sc E) (ob:List Ob) (ih:Dsx→Sc E→List Ob→kT E):kT E:=sel (dx o.op).isNone (Re W o d sc ob (fun s=>nM E pks s o.op o.dst) ih) none
def acO (E:Env) (pks:List Nat) (W:Nat) (o:Oper) (d:Dsx) (st:LS) (sc:Sc E) (ob:List Ob) (ih:Dsx→Sc E→List Ob→kT E):kT E:=
 match sc with
 | []=>Rb E pks W o d [] ob ih
 |q::l=>(match q.1 with
  |0=>Rd E pks W o d st q.2 l ob ih
  |k+1=>Rb E pks W o d ((k,q.2)::l) ob ih)
def acP (E:Env) (nt:Nat) (pks:List Nat) (all:List Oper) (W:Nat) (o:Oper) (d:Dsx) (sc:Sc E) (ob:List Ob) (ih:Dsx→Sc E→List Ob→kT E):kT E:=
 sel (Nat.ble (Nat.succ d.cur) W&&(bX nt o.dst&&fX d.cur (dt o))) (ai (d.vs[d.nc]?) fun st=>ai (jy all o st.ts) fun w=>
  sel w (acO E pks W o d st sc ob ih) (ih ⟨Nat.succ d.cur,d.nc,mc W d.M d.cur (cx W d.M o),(d.vs.map fun s=>s.aY o.dst (.tup [])).map LS.tidy,d.laid,⟨d.cur,0,[],[],true⟩::d.pis⟩ sc ob)) none
def D4 (E:Env) (nt:Nat) (pks:List Nat) (all:List Oper) (W:Nat):List Oper→Dsx→Sc E→List Ob→kT E
 | []=>fun d sc ob=>ai (d.vs[d.nc]?) fun s=>some (s,ob,sc)
 |o::l=>fun d sc ob=>acP E nt pks all W o d sc ob (D4 E nt pks all W l)
def tj (E:Env) (nt:Nat) (B:Bs) (all:List Oper) (W:Nat) (l:List Oper) (ih:Dsx→Sc E→List Ob→kT E):Prop:=
 ∀d sc o r,ih d sc o=some r→cu r.2.1→cu o∧dz E nt B all W d.cur d.nc d.M d.vs d.laid d.pis l r.1
theorem KH {f:LS→Option Res} {d:Dsx} {st:LS} {sc:Sc E} {ob:List Ob} {ih:Dsx→Sc E→List Ob→kT E} {r:LS×List Ob×Sc E} (hih:tj E nt B all W l ih) (hf:∀s r,f s=some r→eE E B o.op s r) (hc:dx o.op=none) (fG:d.cur<W) (hd:(bX nt o.dst&&fX d.cur (dt o))=true) (hst:d.vs[d.nc]? =some st) (hw:jy all o st.ts=some true)
  (h:Re W o d sc ob f ih=some r) (ho:cu r.2.1):cu ob∧dz E nt B all W d.cur d.nc d.M d.vs d.laid d.pis (o::l) r.1:=by
 obtain ⟨sl,h1,h⟩:=af h;obtain ⟨r0,rk,h2,h3,h⟩:=ay h;obtain ⟨h4,h⟩:=av h;obtain ⟨q,h5,h⟩:=af h;obtain ⟨k1,k2⟩:=hih _ _ _ _ h ho;obtain ⟨k3,k4⟩:=jt k1;obtain ⟨m1,m2,m3⟩:=Dt hf h5 k3;rw[Bool.and_eq_true] at h4;refine ⟨k4,dz.op fG hd hst hw hc h1 m1 m2 m3 h3 (fun k j hk hj=>JP h4.1 k j (List.mem_append.2 hk) hj) (fun p hp=>EL (List.all_eq_true.1 h4.2 p hp)) (dz.tidy k2)⟩
theorem ZS {pks:List Nat} {d:Dsx} {st:LS} {it:It E} {sc:Sc E} {ob:List Ob} {ih:Dsx→Sc E→List Ob→kT E} {r:LS×List Ob×Sc E} (hB:BOK pks B) (hih:tj E nt B all W l ih) (fG:d.cur<W) (hd:(bX nt o.dst&&fX d.cur (dt o))=true) (hst:d.vs[d.nc]? =some st) (hw:jy all o st.ts=some true)
  (h:Rd E pks W o d st it sc ob ih=some r) (ho:cu r.2.1):cu ob∧dz E nt B all W d.cur d.nc d.M d.vs d.laid d.pis (o::l) r.1:=by
 unfold Rd at h;split at h
 ·rename_i f bs bs' xs y hC ms ps rs;obtain ⟨h4,h⟩:=av h;obtain ⟨q,h2,h⟩:=af h;obtain ⟨k1,k2⟩:=hih _ _ _ _ h ho;obtain ⟨k3,k4⟩:=jt k1;obtain ⟨c,w,fi,ca,c1,c2,c3,c4,c5,c6,c7,c8,c9,c10,c11,c12,c13,c14⟩:=Bv hB h2 k3 hC;rw[Bool.and_eq_true] at h4;refine ⟨k4,dz.call fG hd hst hw c1 c2 c3 rfl c4 c5 c6 c7 c8 c9 c10 c11 c12 c13 (JP h4.1) (fun p hp=>EL (List.all_eq_true.1 h4.2 p hp)) (dz.tidy (c14 ▸ k2))⟩
 ·obtain ⟨h1,h⟩:=av h;exact KH hih (fun s r hr=>HC hB hr) (by simpa using h1) fG hd hst hw h ho
theorem KG {pks:List Nat} {d:Dsx} {st:LS} {sc:Sc E} {ob:List Ob} {ih:Dsx→Sc E→List Ob→kT E} {r:LS×List Ob×Sc E} (hB:BOK pks B) (hih:tj E nt B all W l ih) (fG:d.cur<W) (hd:(bX nt o.dst&&fX d.cur (dt o))=true) (hst:d.vs[d.nc]? =some st) (hw:jy all o st.ts=some true)
  (h:Rb E pks W o d sc ob ih=some r) (ho:cu r.2.1):cu ob∧dz E nt B all W d.cur d.nc d.M d.vs d.laid d.pis (o::l) r.1:=by
 obtain ⟨h1,h⟩:=av h;exact KH hih (fun s r hr=>qP hB hr) (by simpa using h1) fG hd hst hw h ho
theorem ZR {pks:List Nat} {ih:Dsx→Sc E→List Ob→kT E} (hB:BOK pks B) (hih:tj E nt B all W l ih):tj E nt B all W (o::l) (fun d sc ob=>acP E nt pks all W o d sc ob ih):=by
 intro d sc ob r h ho;obtain ⟨h1,h⟩:=av h;obtain ⟨st,hst,h⟩:=af h;obtain ⟨w,hw,h⟩:=af h;rw[Bool.and_eq_true] at h1;have fG:d.cur<W:=Nat.le_of_ble_eq_true h1.1;rw[aC] at h;split at h
 ·rename_i e;subst e;unfold acO at h;split at h
  ·exact KG hB hih fG h1.2 hst hw h ho
  ·split at h
   ·exact ZS hB hih fG h1.2 hst hw h ho
   ·exact KG hB hih fG h1.2 hst hw h ho
 ·rename_i e;have e:w=false:=by simpa using e
  subst e;obtain ⟨k1,k2⟩:=hih _ _ _ _ h ho;exact ⟨k1,dz.skip fG h1.2 hst hw (dz.tidy k2)⟩
theorem Bk {pks:List Nat} (hB:BOK pks B):∀l:List Oper,tj E nt B all W l (D4 E nt pks all W l)
 | []=>fun d sc o r h ho=>by
  obtain ⟨s,h1,h⟩:=af (show ai (d.vs[d.nc]?) (fun s=>some (s,o,sc))=some r from h)
  cases h;exact ⟨ho,dz.nil h1⟩
 |o::l=>ZR hB (Bk hB l)
end
section
variable {F F':Hf} {g g':Gb} {B:Bs} {φ:Nat→List Nat} {s s' s1:LS} {E:Env} {nt:Nat}
def qQ:Code→Nat→Code
 | .seq a _,0=>a
 | .seq _ b,_=>b
 | .cond _ a _,0=>a
 | .cond _ _ b,_=>b
 | .block _ c,_=>c
 | .loop c,_=>c
 |_,_=>.skip
def lB (c:Code):List Nat→Code
 | []=>c
 |i::p=>qQ (lB c p) i
inductive KP where
 |code (p:List Nat) (c:Code)|block (id:Nat)|loop (p:List Nat) (c:Code)
def KP.ki:KP→KI
 | .code _ c=>.code c
 | .block id=>.block id
 | .loop _ c=>.loop c
def eS (c:Code):List Nat→List KP
 | []=> []
 |i::p=>
  match lB c p with
  | .seq _ b=>(match i with|0=>.code (1::p) b::eS c p|_=>eS c p)
  | .block id _=>.block id::eS c p
  | .loop b=>.loop p b::eS c p
  |_=>eS c p
structure Fx (E:Env) where
 fn:Func
 code:Code
 pks:List Nat
 outs:List Nat
inductive Md where
 |ent (c:Code) (p:List Nat) (chk:Bool)|out (e:Ex)
inductive Stop where
 |at (p:List Nat) (s:LS)|ret (y:AV) (bs:List (Nat×Bx))
abbrev rK:=List (List Nat×List (Nat×PM)×List (Nat×PB))
def eqP:List Nat→List Nat→Bool
 | []=>fun q=>(match q with| []=>true|_=>false)
 |a::p=>fun q=>(match q with| []=>false|b::q=>sel (Nat.beq a b) (eqP p q) false)
def Kq (p:List Nat):rK→Option (List (Nat×PM)×List (Nat×PB))
 | []=>none
 |x::l=>sel (eqP x.1 p) (some x.2) (Kq p l)
def wT (s:LS):List (Nat×PM)→List (Nat×AV)
 | []=> []
 |q::l=>(q.1,q.2.app (qR (lk q.1 s.ts)))::wT s l
def An (s:LS):List (Nat×PB)→Option (List (Nat×Bx))
 | []=>some []
 |q::l=>aF (lk q.1 s.bs) (An s l) fun b r=>some ((q.1,q.2.app b)::r)
theorem Ak {t:Nat} {y:AV}:∀{l:List (Nat×PM)},lk t (wT s l)=some y→y= .undef∨∃x,lk t s.ts=some x∧WV x y
 | [],h=>by cases h
 |(u,m)::l,h=>by
  rw[show wT s ((u,m)::l)=(u,m.app (qR (lk u s.ts)))::wT s l from rfl,br] at h;split at h
  ·rename_i e;cases h;subst e;cases hx:lk t s.ts with
   |none=>left;exact PM.E7 m
   |some x=>exact .inr ⟨x,rfl,m.wv x⟩
  ·exact Ak h
theorem Am {k:Nat} {b':Bx}:∀{l:List (Nat×PB)} {r:List (Nat×Bx)},An s l=some r→lk k r=some b'→∃b,lk k s.bs=some b∧WB b b'
 | [],r,h,hk=>by
  have h:some []=some r:=h;cases h;cases hk
 |(u,m)::l,r,h,hk=>by
  obtain ⟨b,r',h1,h2,h⟩:=ay (show aF (lk u s.bs) (An s l) (fun b r=>some ((u,m.app b)::r))=some r from h)
  cases h;rw[br] at hk;split at hk
  ·rename_i e;cases hk;subst e;exact ⟨b,h1,m.wb b⟩
  ·exact Am h2 hk
theorem Vg {lt:List (Nat×PM)} {lb:List (Nat×PB)} {r:List (Nat×Bx)} (h:An s lb=some r):oz s ⟨wT s lt,r⟩:=⟨fun t y hy=>Ak hy,fun k b' hk=>Am h hk⟩
def Al (s:LS):List Nat→Option (List (Nat×Bx))
 | []=>some []
 |k::l=>aF (lk k s.bs) (Al s l) fun b r=>some ((k,b)::r)
theorem Jh {k:Nat} {b:Bx}:∀{l:List Nat} {r:List (Nat×Bx)},Al s l=some r→lk k r=some b→lk k s.bs=some b
 | [],r,h,hk=>by
  have h:some []=some r:=h;cases h;cases hk
 |u::l,r,h,hk=>by
  obtain ⟨b,r',h1,h2,h⟩:=ay (show aF (lk u s.bs) (Al s l) (fun b r=>some ((u,b)::r))=some r from h)
  cases h;rw[br] at hk;split at hk
  ·rename_i e;cases hk;subst e;exact h1
  ·exact Jh h2 hk
abbrev ov:=Option (Stop×List Ob)
def retX (X:Fx E) (s:LS) (o:List Ob):ov:=
 aF (I4 E s X.fn.results.toList) (Al s X.outs) fun ys bs=>sel (eR ys) (some (.ret (Py ys) bs,o)) none
def Yg (X:Fx E) (s:LS) (sc:Sc E) (o:List Ob):ov:=(fun q:LS×List Ob×Sc E=>retX X q.1 q.2.1) (gho E X.pks sc s o)
abbrev uw (E:Env):=Md→List KP→LS→Sc E→List Ob→ov
def Yk (X:Fx E) (ih:uw E) (ops:List Oper) (n:Nat) (draw:Bool) (ks:List KP) (s:LS) (sc:Sc E) (o:List Ob):ov:=
 sel draw ((fun q:LS×List Ob×Sc E=>ai (D4 E X.fn.ntmps X.pks ops n ops ⟨0,0,0,[q.1],[],[]⟩ q.2.2 q.2.1) fun r=>ih (.out .normal) ks r.1 r.2.2 r.2.1) (gho E X.pks sc s o))
  (ai (IU E X.fn.ntmps X.pks ops ops s sc o) fun r=>ih (.out .normal) ks r.1 r.2.2 r.2.1)
def Bg (X:Fx E) (ih:uw E) (c:Code) (p:List Nat) (ks:List KP) (s:LS) (sc:Sc E) (o:List Ob):ov:=
 match c with
 | .skip=>ih (.out .normal) ks s sc o
 | .seq a b=>ih (.ent a (0::p) true) (.code (1::p) b::ks) s sc o
 | .region _ ops draw=>Yk X ih ops.toList ops.size draw ks s sc o
 | .cond x a b=>(match aJ s.ts x with
  | .bool true=>ih (.ent a (0::p) true) ks s sc o
  | .bool false=>ih (.ent b (1::p) true) ks s sc o
  |_=>none)
 | .block id c=>ih (.ent c (0::p) true) (.block id::ks) s sc o
 | .loop c=>ih (.ent c (0::p) true) (.loop p c::ks) s sc o
 | .exit id=>ih (.out (.exit id)) ks s sc o
 | .ret=>Yg X s sc o
 |_=>none
def JN (X:Fx E) (ih:uw E) (e:Ex) (ks:List KP) (s:LS) (sc:Sc E) (o:List Ob):ov:=
 match ks with
 | []=>sel (qb e) (Yg X s sc o) none
 | .code p c::ks=>sel (eu e) (ih (.ent c p true) ks s sc o) (ih (.out e) ks s sc o)
 | .block id::ks=>ih (.out (leave id e)) ks s sc o
 | .loop p c::ks=>sel (eu e) (ih (.ent (.loop c) p true) ks s sc o) (ih (.out e) ks s sc o)
def ahr (X:Fx E) (p:List Nat) (lt:List (Nat×PM)) (lb:List (Nat×PB)) (q:LS×List Ob×Sc E):ov:=ai (An q.1 lb) fun bs=>some (.at p ⟨wT q.1 lt,bs⟩,q.2.1)
def Da (X:Fx E) (S:rK) (ih:uw E) (m:Md) (ks:List KP) (s:LS) (sc:Sc E) (o:List Ob):ov:=
 match m with
 | .ent c p chk=>sel chk (match Kq p S with
  |some l=>ahr X p l.1 l.2 (gho E X.pks sc s o)
  |none=>Bg X ih c p ks s sc o) (Bg X ih c p ks s sc o)
 | .out e=>JN X ih e ks s sc o
def runK (X:Fx E) (S:rK) (n:Nat):uw E:=Nat.rec (fun _ _ _ _ _=>none) (fun _ ih=>Da X S ih) n
def qN (X:Fx E) (S:rK) (p:List Nat) (s:LS) (sc:Sc E):ov:=runK X S 100000 (.ent (lB X.code p) p false) (eS X.code p) s sc []
def AtQ (X:Fx E) (B:Bs) (p:List Nat) (s:LS) (Q:Ex→LS→Prop):Prop:=Wk E X.fn.ntmps B (lB X.code p) ((eS X.code p).map KP.ki) s Q
def At (X:Fx E) (p:List Nat) (s:LS) (y:AV) (bs':List (Nat×Bx)):Prop:=∀B,BOK X.pks B→AtQ X B p s (aac E X.fn y bs')
def KOK (X:Fx E):List KP→Prop
 | []=>True
 | .code p c::ks=>c=lB X.code p∧ks=eS X.code p∧KOK X ks
 | .loop p c::ks=>Code.loop c=lB X.code p∧ks=eS X.code p∧KOK X ks
 | .block _::ks=>KOK X ks
theorem vA (X:Fx E):∀p,KOK X (eS X.code p)
 | []=>trivial
 |i::p=>by
  have ih:=vA X p;unfold eS;split
  ·rename_i a b hc;split
   ·exact ⟨by simp[lB,hc,qQ],by simp[eS,hc],ih⟩
   ·exact ih
  ·exact ih
  ·rename_i b hc;exact ⟨hc.symm,rfl,ih⟩
  ·exact ih
def MdOK (X:Fx E) (ks:List KP):Md→Prop
 | .ent c p _=>c=lB X.code p∧ks=eS X.code p
 | .out _=>True
def akP (X:Fx E) (B:Bs) (ks:List KP) (s:LS) (Q:Ex→LS→Prop):Md→Prop
 | .ent c _ _=>Wk E X.fn.ntmps B c (ks.map KP.ki) s Q
 | .out e=>WkO E X.fn.ntmps B e (ks.map KP.ki) s Q
def BK (X:Fx E) (B:Bs) (Q:Ex→LS→Prop):Stop→Prop
 | .at p s=>AtQ X B p s Q
 | .ret y bs=>∀e s,aac E X.fn y bs e s→Q e s
theorem WkO.ret {Q:Ex→LS→Prop} (h:Q .ret s):∀ks:List KI,WkO E nt B .ret ks s Q
 | []=>WkO.nil h
 | .code _::ks=>WkO.acT rfl (WkO.ret h ks)
 | .block id::ks=>WkO.block (WkO.ret h ks)
 | .loop _::ks=>WkO.abH rfl (WkO.ret h ks)
def Gk (X:Fx E) (B:Bs) (Q:Ex→LS→Prop) (ih:uw E):Prop:=
 ∀m ks s sc o r,ih m ks s sc o=some r→cu r.2→KOK X ks→MdOK X ks m→BK X B Q r.1→cu o∧akP X B ks s Q m
theorem NG {X:Fx E} {Q:Ex→LS→Prop} {sc:Sc E} {o:List Ob} {r:Stop×List Ob} (hB:BOK X.pks B) (h:Yg X s sc o=some r) (ho:cu r.2) (hp:BK X B Q r.1):cu o∧∃s1,dR B s s1∧∀e,qb e=true→Q e s1:=by
 obtain ⟨ys,bs,h1,h2,h⟩:=ay (show aF (I4 E (gho E X.pks sc s o).1 X.fn.results.toList) (Al (gho E X.pks sc s o).1 X.outs) (fun ys bs=>sel (eR ys) (some (.ret (Py ys) bs,(gho E X.pks sc s o).2.1)) none)=some r from h)
 obtain ⟨h3,h⟩:=av h;cases h;obtain ⟨k1,k2⟩:=vM hB sc s o ho;exact ⟨k1,_,k2,fun e he=>hp e _ ⟨he,⟨ys,h1,h3,rfl⟩,fun k b hk=>Jh h2 hk⟩⟩
theorem adI {X:Fx E} {Q:Ex→LS→Prop} {ih:uw E} {id:Nat} {ops:Array Oper} {draw:Bool} {ks:List KP} {sc:Sc E} {o:List Ob} {r:Stop×List Ob} (hB:BOK X.pks B) (hih:Gk X B Q ih) (h:Yk X ih ops.toList ops.size draw ks s sc o=some r) (ho:cu r.2) (hk:KOK X ks) (hp:BK X B Q r.1):
  cu o∧Wk E X.fn.ntmps B (.region id ops draw) (ks.map KP.ki) s Q:=by
 unfold Yk at h;cases draw with
 |true=>
  obtain ⟨q,h1,h⟩:=af h;obtain ⟨q1,q2⟩:=hih _ _ _ _ _ _ h ho hk trivial hp;obtain ⟨q3,q4⟩:=Bk hB _ _ _ _ _ h1 q1;obtain ⟨q5,q6⟩:=vM hB sc s o q3;exact ⟨q5,Wk.IT q6 (Wk.drawn q4 q2)⟩
 |false=>
  obtain ⟨q,h1,h⟩:=af h;obtain ⟨q1,q2⟩:=hih _ _ _ _ _ _ h ho hk trivial hp;obtain ⟨q3,q4⟩:=Ev hB _ _ _ _ _ h1 q1;exact ⟨q3,Wk.region q4 q2⟩
theorem E1 {X:Fx E} {Q:Ex→LS→Prop} {ih:uw E} {c:Code} {p:List Nat} {ks:List KP} {sc:Sc E} {o:List Ob} {r:Stop×List Ob} (hB:BOK X.pks B) (hih:Gk X B Q ih) (h:Bg X ih c p ks s sc o=some r) (ho:cu r.2) (hk:KOK X ks) (h1:c=lB X.code p) (h2:ks=eS X.code p) (hp:BK X B Q r.1):
  cu o∧Wk E X.fn.ntmps B c (ks.map KP.ki) s Q:=by
 unfold Bg at h;split at h
 ·obtain ⟨q1,q2⟩:=hih _ _ _ _ _ _ h ho hk trivial hp;exact ⟨q1,Wk.skip q2⟩
 ·rename_i a b;obtain ⟨q1,q2⟩:=hih _ _ _ _ _ _ h ho ⟨by simp[lB,←h1,qQ],by simp[eS,←h1,h2],hk⟩ ⟨by simp[lB,←h1,qQ],by simp[eS,←h1,h2]⟩ hp
  exact ⟨q1,Wk.seq q2⟩
 ·exact adI hB hih h ho hk hp
 ·rename_i x a b;split at h
  ·rename_i hv;obtain ⟨q1,q2⟩:=hih _ _ _ _ _ _ h ho hk ⟨by simp[lB,←h1,qQ],by simp[eS,←h1,h2]⟩ hp
   exact ⟨q1,Wk.Ro hv q2⟩
  ·rename_i hv;obtain ⟨q1,q2⟩:=hih _ _ _ _ _ _ h ho hk ⟨by simp[lB,←h1,qQ],by simp[eS,←h1,h2]⟩ hp
   exact ⟨q1,Wk.Rp hv q2⟩
  ·cases h
 ·rename_i id c;obtain ⟨q1,q2⟩:=hih _ _ _ _ _ _ h ho hk ⟨by simp[lB,←h1,qQ],by simp[eS,←h1,h2]⟩ hp
  exact ⟨q1,Wk.block q2⟩
 ·rename_i c;obtain ⟨q1,q2⟩:=hih _ _ _ _ _ _ h ho ⟨h1,h2,hk⟩ ⟨by simp[lB,←h1,qQ],by simp[eS,←h1,h2]⟩ hp
  exact ⟨q1,Wk.loop q2⟩
 ·obtain ⟨q1,q2⟩:=hih _ _ _ _ _ _ h ho hk trivial hp;exact ⟨q1,Wk.exit q2⟩
 ·obtain ⟨q1,s1,q2,q3⟩:=NG hB h ho hp;exact ⟨q1,Wk.ret (WkO.IT q2 (WkO.ret (q3 _ rfl) _))⟩
 ·cases h
theorem WA {X:Fx E} {Q:Ex→LS→Prop} {ih:uw E} {e:Ex} {ks:List KP} {sc:Sc E} {o:List Ob} {r:Stop×List Ob} (hB:BOK X.pks B) (hih:Gk X B Q ih) (h:JN X ih e ks s sc o=some r) (ho:cu r.2) (hk:KOK X ks) (hp:BK X B Q r.1):cu o∧WkO E X.fn.ntmps B e (ks.map KP.ki) s Q:=by
 unfold JN at h;split at h
 ·obtain ⟨he,h⟩:=av h;obtain ⟨q1,s1,q2,q3⟩:=NG hB h ho hp;exact ⟨q1,WkO.IT q2 (WkO.nil (q3 e he))⟩
 ·rename_i p c ks;obtain ⟨k1,k2,k3⟩:=hk;rw[aC] at h;split at h
  ·rename_i he;obtain ⟨q1,q2⟩:=hih _ _ _ _ _ _ h ho k3 ⟨k1,k2⟩ hp;rw[qU he];exact ⟨q1,WkO.code q2⟩
  ·rename_i he;obtain ⟨q1,q2⟩:=hih _ _ _ _ _ _ h ho k3 trivial hp;exact ⟨q1,WkO.acT (by simpa using he) q2⟩
 ·rename_i id ks;obtain ⟨q1,q2⟩:=hih _ _ _ _ _ _ h ho hk trivial hp;exact ⟨q1,WkO.block q2⟩
 ·rename_i p c ks;obtain ⟨k1,k2,k3⟩:=hk;rw[aC] at h;split at h
  ·rename_i he;obtain ⟨q1,q2⟩:=hih _ _ _ _ _ _ h ho k3 ⟨k1,k2⟩ hp;rw[qU he];exact ⟨q1,WkO.loop q2⟩
  ·rename_i he;obtain ⟨q1,q2⟩:=hih _ _ _ _ _ _ h ho k3 trivial hp;exact ⟨q1,WkO.abH (by simpa using he) q2⟩
theorem Db (X:Fx E) (S:rK) (Q:Ex→LS→Prop) (hB:BOK X.pks B):∀n,Gk X B Q (runK X S n)
 |0=>fun m ks s sc o r h=>by
  have h:none=some r:=h;cases h
 |n+1=>fun m ks s sc o r h ho hk hm hp=>by
  have ih:=Db X S Q hB n;have h:Da X S (runK X S n) m ks s sc o=some r:=h;cases m with
  |out e=>exact WA hB ih h ho hk hp
  |ent c p chk=>
   obtain ⟨m1,m2⟩:=hm;unfold Da at h;dsimp only at h;rw[aC] at h;split at h
   ·split at h
    ·rename_i l hl;obtain ⟨bs,h1,h⟩:=af h;cases h;obtain ⟨k1,k2⟩:=vM hB sc s o ho;subst m1;subst m2;exact ⟨k1,Wk.IT (k2.trans (dR.less (Vg (lt:=l.1) h1))) hp⟩
    ·exact E1 hB ih h ho hk m1 m2 hp
   ·exact E1 hB ih h ho hk m1 m2 hp
def lsA (s:LS):List AV:=.agg (s.ts.map fun p=>.ifc p.1 p.2)::s.bs.map fun p=>.ifc p.1 (bxA p.2)
theorem aam:∀{a b:List (Nat×AV)},(a.map fun p=>AV.ifc p.1 p.2)=(b.map fun p=>AV.ifc p.1 p.2)→a=b
 | [],[],_=>rfl
 | [],_::_,h=>by cases h
 |_::_,[],h=>by cases h
 |p::a,q::b,h=>by
  rw[List.map_cons,List.map_cons,List.cons.injEq] at h;obtain ⟨h1,h2⟩:=h;injection h1 with h3 h4
  rw[aam h2,Prod.ext h3 h4]
theorem Rv:∀{a b:List (Nat×Bx)},(a.map fun p=>AV.ifc p.1 (bxA p.2))=(b.map fun p=>AV.ifc p.1 (bxA p.2))→a=b
 | [],[],_=>rfl
 | [],_::_,h=>by cases h
 |_::_,[],h=>by cases h
 |p::a,q::b,h=>by
  rw[List.map_cons,List.map_cons,List.cons.injEq] at h;obtain ⟨h1,h2⟩:=h;injection h1 with h3 h4
  rw[Rv h2,Prod.ext h3 (By h4)]
theorem afA {a b:LS} (h:lsA a=lsA b):a=b:=by
 unfold lsA at h;injection h with h1 h2
 injection h1 with h1
 cases a with|mk t1 b1=>
 cases b with|mk t2 b2=>
 have e1:t1=t2:=aam h1;have e2:b1=b2:=Rv h2;rw[e1,e2]
def ptA:List Nat→List AV
 | []=> []
 |i::p=>.loc i 0::ptA p
theorem Va:∀{a b:List Nat},ptA a=ptA b→a=b
 | [],[],_=>rfl
 | [],_::_,h=>by cases h
 |_::_,[],h=>by cases h
 |p::a,q::b,h=>by
  have h:AV.loc p 0::ptA a= .loc q 0::ptA b:=h;injection h with h1 h2
  injection h1 with h1
  rw[Va h2,h1]
def wK:Stop→AV
 | .at p s=>.fn 0 (ptA p) (lsA s)
 | .ret y bs=>.fn 1 [y] (bs.map fun p=>.ifc p.1 (bxA p.2))
theorem X9 {a b:Stop} (h:wK a=wK b):a=b:=by
 cases a with
 | «at» p s=>
  cases b with
  | «at» p' s'=>
   have h:AV.fn 0 (ptA p) (lsA s)= .fn 0 (ptA p') (lsA s'):=h;injection h with _ h1 h2
   rw[Va h1,afA h2]
  |ret y bs=>
   have h:AV.fn 0 _ _= .fn 1 _ _:=h;injection h with h0
   cases h0
 |ret y bs=>
  cases b with
  | «at» p' s'=>
   have h:AV.fn 1 _ _= .fn 0 _ _:=h;injection h with h0
   cases h0
  |ret y' bs'=>
   have h:AV.fn 1 [y] _= .fn 1 [y'] _:=h;injection h with _ h1 h2
   injection h1 with h1
   rw[h1,Rv h2]
def IV (r:ov):List AV:= @Option.rec (Stop×List Ob) (fun _=>List AV) [.undef] (fun q=>wK q.1::Km q.2) r
def IW (st:Stop) (r:ov):List AV:= @Option.rec (Stop×List Ob) (fun _=>List AV) [] (fun q=>wK st::IP q.2) r
theorem UE {st:Stop} {r:ov} (h:IV r=IW st r):∃o,r=some (st,o)∧cu o:=by
 cases r with
 |none=>cases h
 |some q=>
  have h:wK q.1::Km q.2=wK st::IP q.2:=h;injection h with h1 h2
  exact ⟨q.2,by rw[←X9 h1],JD h2⟩
theorem afj {X:Fx E} {S:rK} {p p':List Nat} {s s':LS} {sc:Sc E} {y:AV} {bs':List (Nat×Bx)} (h:IV (qN X S p s sc)=IW (.at p' s') (qN X S p s sc)) (k:At X p' s' y bs'):At X p s y bs':=fun B hB=>by
 obtain ⟨o,h1,h2⟩:=UE h;exact (Db X S _ hB _ _ _ _ _ _ _ h1 h2 (vA X p) ⟨rfl,rfl⟩ (k B hB)).2
theorem adE {X:Fx E} {S:rK} {p:List Nat} {s:LS} {sc:Sc E} {y:AV} {bs':List (Nat×Bx)} (h:IV (qN X S p s sc)=IW (.ret y bs') (qN X S p s sc)):At X p s y bs':=fun B hB=>by
 obtain ⟨o,h1,h2⟩:=UE h;exact (Db X S _ hB _ _ _ _ _ _ _ h1 h2 (vA X p) ⟨rfl,rfl⟩ fun e s h=>h).2
theorem Rt {X:Fx E} {f:Nat} {bs bs':List (Nat×Bx)} {xs:List AV} {y:AV} (hk:xx E f X.fn X.code) (hn:Nat.ble xs.length X.fn.ntmps=true) (hp:qa bs=X.pks) (h:At X [] ⟨o8 0 xs,bs⟩ y bs'):bC E f bs xs y bs':=
 aeu hk hn fun B hB=>h B (hp ▸ hB)
theorem YV {α:Type} {b:Bool} {x y:Option α} {r:α} {G:Prop} (h:(if b=true then x else y)=some r) (k1:b=true→x=some r→G) (k2:b=false→y=some r→G):G:=by
 cases b with
 |true=>exact k1 rfl (by simpa using h)
 |false=>exact k2 rfl (by simpa using h)
theorem Xp {α β:Type} {x:Option β} {f:β→Option α} {r:α} {G:Prop} (h:x.bind f=some r) (k:∀y,x=some y→f y=some r→G):G:=by
 cases x with
 |none=>simp at h
 |some y=>exact k y rfl h
end
end Go.Sim
end
