/- Texts that belong together. The first: Operations that change a box in its place: store, copy; slices of slices. -/
import Derived.Test.YtmealahmjddpcaaGreatDoorP5
set_option linter.all false
noncomputable section
namespace Go.Sim
section
variable {F F':Hf} {g g':Gb} {B:Bs} {φ:Nat→List Nat} {s s' s1:LS} {tm:Tf} {h:Hs} {hp:Hf} {E:Env} {nt:Nat} {all l:List Oper}
theorem tz {t:TypeId} {i:TI} {id off:Nat} {e:TypeId} {svs ws:List SV} {v:SV} (hi:E.ty.get t=some i) (hw:v.cells=some ws) (hh:hp id=some (.cells e svs)) (hl:(Nat.beq ws.length i.size&&Nat.ble (Nat.add off ws.length) svs.length)=true):unit (jb E hp t v (.ptr id off))=some (.tup [],[(id,some (.cells e (bI svs off ws)))]):=by
 show unit (o7 (E.ty.get t) v.cells (jQ (hp id)) (fun i xs p=>sel (Nat.beq xs.length i.size&&Nat.ble (Nat.add off xs.length) p.2.length) (some [(id,some (SO.cells p.1 (bI p.2 off xs)))]) none))=_
 rw[hi,hw,hh];show unit (sel (Nat.beq ws.length i.size&&Nat.ble (Nat.add off ws.length) svs.length) (some [(id,some (SO.cells e (bI svs off ws)))]) none)=_;rw[hl];rfl
theorem Yy {t:TypeId} {a c:Operand} {i:TI} {K off:Nat} {e:TypeId} {y:AV} {cs xs:List AV} (hi:E.ty.get t=some i) (ha:aJ s.ts a= .loc K off) (hc:aJ s.ts c=y) (hx:jR y=some xs) (hb:lk K s.bs=some (.flat e cs)) (hl:(Nat.beq xs.length i.size&&Nat.ble (Nat.add off xs.length) cs.length)=true):
  aP E B (.store t a c) s (s.set K (.flat e (bZ cs off xs))) (.tup []) (some (K,false)):=aP.wr hb fun {F g φ tm h new} r=>by
 obtain ⟨va,a1,a2⟩:=r.val ha (by simp)
 obtain ⟨vc,c1,c2⟩:=r.val hc (fun e=>by subst e;cases hx)
 obtain ⟨ws,w1,w2⟩:=m5 c2 hx;have hq:=r.bx K _ hb;generalize hfp:φ K=fp at hq ⊢;cases hq with
 | @flat _ _ svs hh q=>
  cases a2;refine ⟨.tup [],.cells e (bI svs off ws),?_,.tup .nil,rfl,fun hp' hh'=>.flat hh' (js q w2 off)⟩
  show two tm a c (fun a v=>unit (jb E h.hp.get t v a))=_
  unfold two;rw[a1,c1];exact tz hi w1 hh (by rw[w2.length,q.length];exact hl)
theorem UH {α:Type} {sz j:Nat} {Q:List (List α)} {R:List α} (hu:∀r∈Q,r.length=sz) (hj:Q[j]? =some R):Q.flatten.drop (j*sz)=R++Q.flatten.drop (j*sz+sz):=by
 have hlt:j<Q.length:=(List.getElem?_eq_some_iff.1 hj).1;have he:Q[j]=R:=(List.getElem?_eq_some_iff.1 hj).2;rw[show j*sz+sz=(j+1)*sz by rw[Nat.add_mul,Nat.one_mul],←ju hu,←ju hu,List.drop_eq_getElem_cons hlt,List.flatten_cons,he]
theorem Zw {α:Type} {sz j:Nat} {Q:List (List α)} {R':List α} (hu:∀r∈Q,r.length=sz) (hlt:j<Q.length):(Q.set j R').flatten=Q.flatten.take (j*sz)++R'++Q.flatten.drop (j*sz+sz):=by
 rw[List.set_eq_take_append_cons_drop,if_pos hlt,List.flatten_append,List.flatten_cons,iM hu,ju hu,Nat.add_mul,Nat.one_mul,List.append_assoc]
theorem nD {sz j f:Nat} {Q:List (List AV)} {R xs:List AV} (hu:∀r∈Q,r.length=sz) (hj:Q[j]? =some R) (hf:f+xs.length≤sz):(Q.set j (bZ R f xs)).flatten=bZ Q.flatten (j*sz+f) xs:=by
 have hlt:j<Q.length:=(List.getElem?_eq_some_iff.1 hj).1;have hR:R.length=sz:=hu R (List.mem_of_getElem? hj);rw[Zw hu hlt];unfold bZ;have e1:Q.flatten.take (j*sz+f)=Q.flatten.take (j*sz)++R.take f:=by
  rw[List.take_add,UH hu hj,List.take_append_of_le_length (by omega)]
 have e2:Q.flatten.drop (Nat.add (j*sz+f) xs.length)=R.drop (Nat.add f xs.length)++Q.flatten.drop (j*sz+sz):=by
  rw[show Nat.add (j*sz+f) xs.length=j*sz+(f+xs.length) from Nat.add_assoc _ _ _,←List.drop_drop,UH hu hj,List.drop_append_of_le_length (by omega)]
  rfl
 rw[e1,e2];simp[List.append_assoc]
theorem np {vs ws:List SV} {off N:Nat} (h1:off+ws.length≤N) (h2:N≤vs.length):(bI vs off ws).take N=bI (vs.take N) off ws:=by
 show (vs.take off++ws++vs.drop (off+ws.length)).take N=(vs.take N).take off++ws++(vs.take N).drop (off+ws.length);have hl:(vs.take off++ws).length=off+ws.length:=by rw[List.length_append,List.length_take,Nat.min_eq_left (by omega)]
 rw[List.take_append,List.take_of_length_le (by omega),hl,List.drop_take,List.take_take,Nat.min_eq_left (by omega)]
theorem nq {vs ws:List SV} {off:Nat} (h1:off+ws.length≤vs.length):(bI vs off ws).length=vs.length:=by
 show (vs.take off++ws++vs.drop (off+ws.length)).length=_;rw[List.length_append,List.length_append,List.length_take,List.length_drop,Nat.min_eq_left (by omega)]
 omega
theorem mH {R xs:List AV} {f:Nat} (h1:f+xs.length≤R.length):(bZ R f xs).length=R.length:=by
 unfold bZ;rw[List.length_append,List.length_append,List.length_take,List.length_drop,Nat.min_eq_left (by omega),show Nat.add f xs.length=f+xs.length from rfl]
 omega
theorem MK {t:TypeId} {a c:Operand} {i:TI} {K sz j f:Nat} {z:Bool} {e:TypeId} {y:AV} {Q:List (List AV)} {R xs:List AV} (hi:E.ty.get t=some i) (ha:aJ s.ts a= .el K sz j f) (hc:aJ s.ts c=y) (hx:jR y=some xs) (hkx:(cI xs).isEmpty=true) (hb:lk K s.bs=some (.rows z e sz Q)) (hj:Q[j]? =some R) (hl:(Nat.beq xs.length i.size&&Nat.ble (Nat.add f xs.length) sz)=true):
  aP E B (.store t a c) s (s.set K (.rows z e sz (Q.set j (bZ R f xs)))) (.tup []) (some (K,false)):=aP.wr hb fun {F g φ tm h new} r=>by
 rw[Bool.and_eq_true] at hl;have hs:xs.length=i.size:=(beq_iff _ _).1 hl.1;have hf:f+xs.length≤sz:=Nat.le_of_ble_eq_true hl.2;obtain ⟨va,a1,a2⟩:=r.val ha (by simp)
 obtain ⟨vc,c1,c2⟩:=r.val hc (fun e=>by subst e;cases hx)
 obtain ⟨ws,w1,w2⟩:=m5 c2 hx;have hq:=r.bx K _ hb;generalize hfp:φ K=fp at hq ⊢;have hlt:j<Q.length:=(List.getElem?_eq_some_iff.1 hj).1;cases hq with
 |df=>cases hlt
 | @rows _ _ _ _ svs hb' hh hz hu eM q=>
  cases a2;have hlen:=gj eM;have hjs:j*sz+sz≤Q.length*sz:=by
   have:(j+1)*sz≤Q.length*sz:=Nat.mul_le_mul_right _ (by omega)
   rw[Nat.add_mul,Nat.one_mul] at this;exact this
  have hR:R.length=sz:=hu R (List.mem_of_getElem? hj);have hwl:=w2.length;refine ⟨.tup [],.cells e (bI svs (j*sz+f) ws),?_,.tup .nil,rfl,fun hp' hh'=>.rows hb' hh' (fun hz0=> ?_) (fun r hr=> ?_) ?_ ?_⟩
  ·show two tm a c (fun a v=>unit (jb E h.hp.get t v a))=_
   unfold two;rw[a1,c1];refine tz hi w1 hh ?_;rw[hwl,Bool.and_eq_true];exact ⟨hl.1,Nat.ble_eq_true_of_le (show j*sz+f+xs.length≤svs.length by omega)⟩
  ·intro hc;have:=congrArg List.length hc;rw[List.length_set] at this;rw[show Q.length=0 from this] at hlt;cases hlt
  ·rcases List.mem_or_eq_of_mem_set hr with hr|rfl
   ·exact hu r hr
   ·rw[mH (by omega)];exact hR
  ·rw[List.length_set,nq (by omega)];exact eM
  ·rw[List.length_set,nD hu hj hf,np (by omega) hlen]
   exact js q (w2.gf hkx) _
theorem DN {sz f:Nat}:∀{Q:List (List AV)} {j:Nat} {R:List AV} {x:AV},(∀r∈Q,r.length=sz)→Q[j]? =some R→R[f]? =some x→Q.flatten[j*sz+f]? =some x
 | [],j,R,x,_,h,_=>by cases h
 |r::Q,0,R,x,hu,h,hx=>by
  have e:r=R:=by simpa using h
  subst e;rw[Nat.zero_mul,Nat.zero_add,List.flatten_cons,List.getElem?_append_left (List.getElem?_eq_some_iff.1 hx).1];exact hx
 |r::Q,j+1,R,x,hu,h,hx=>by
  have h:Q[j]? =some R:=h;have hr:r.length=sz:=hu r (by simp)
  rw[List.flatten_cons,List.getElem?_append_right (by rw[hr,Nat.add_mul];omega),hr]
  have:=DN (fun r hr=>hu r (by simp[hr])) h hx
  rw[show (j+1)*sz+f-sz=j*sz+f from by rw[Nat.add_mul];omega]
  exact this
theorem Fg {t:TypeId} {a c:Operand} {i:TI} {K sz j f:Nat} {e:TypeId} {y x0:AV} {Q:List (List AV)} {x:AV} (hi:E.ty.get t=some i) (ha:aJ s.ts a= .el K sz j f) (hc:aJ s.ts c=y) (hx:jR y=some [x]) (hb:lk K s.bs=some (.hole e sz Q (j*sz+f) x0)) (hun:Q.flatten[j*sz+f]? =some .undef) (hl:Nat.beq 1 i.size=true):
  aP E B (.store t a c) s (s.set K (.hole e sz Q (j*sz+f) x)) (.tup []) (some (K,false)):=aP.wr hb fun {F g φ tm h new} r=>by
 obtain ⟨va,a1,a2⟩:=r.val ha (by simp)
 obtain ⟨vc,c1,c2⟩:=r.val hc (fun e=>by subst e;cases hx)
 obtain ⟨ws,w1,w2⟩:=m5 c2 hx;have hq:=r.bx K _ hb;generalize hfp:φ K=fp at hq ⊢;cases hq with
 | @hole _ _ _ _ _ svs v hb' hh hu eM q hi0 hv hx0=>
  cases a2;have hlen:=gj eM;cases w2 with|cons hw1 hw2=>
  rename_i w ws';cases hw2;have hlt:j*sz+f<svs.length:=by omega
  refine ⟨.tup [],.cells e (bI svs (j*sz+f) [w]),?_,.tup .nil,rfl,fun hp' hh'=>.hole (v:=w) hb' hh' hu ?_ ?_ hi0 ?_ hw1⟩
  ·show two tm a c (fun a v=>unit (jb E h.hp.get t v a))=_
   unfold two;rw[a1,c1];refine tz hi w1 hh ?_;rw[Bool.and_eq_true];exact ⟨hl,Nat.ble_eq_true_of_le (show j*sz+f+1≤svs.length by omega)⟩
  ·rw[nq (by simp;omega)];exact eM
  ·rw[np (by simp;omega) hlen]
   have:=js q (VAs.one (F:=F) (g:=.no) (.undef w)) (j*sz+f);have e0:bZ Q.flatten (j*sz+f) [.undef]=Q.flatten:=by
    obtain ⟨hlt,he⟩:=List.getElem?_eq_some_iff.1 hun;show Q.flatten.take (j*sz+f)++ [.undef]++Q.flatten.drop (j*sz+f+1)=Q.flatten;rw[←he,List.append_assoc];show Q.flatten.take (j*sz+f)++(Q.flatten[j*sz+f]::Q.flatten.drop (j*sz+f+1))=Q.flatten;rw[←List.drop_eq_getElem_cons hlt,List.take_append_drop]
   rwa[e0] at this
  ·show (svs.take (j*sz+f)++ [w]++svs.drop (j*sz+f+1))[j*sz+f]? =some w;have hl:(svs.take (j*sz+f)).length=j*sz+f:=by rw[List.length_take];omega
   rw[List.append_assoc,List.getElem?_append_right (by rw[hl];exact Nat.le_refl _),hl,Nat.sub_self]
   rfl
theorem Jw {t:TypeId} {a c:Operand} {i:TI} {K sz j f:Nat} {z:Bool} {e:TypeId} {y:AV} {Q:List (List AV)} {R:List AV} {x:AV} (hi:E.ty.get t=some i) (ha:aJ s.ts a= .el K sz j f) (hc:aJ s.ts c=y) (hx:jR y=some [x]) (hb:lk K s.bs=some (.rows z e sz Q)) (hj:Q[j]? =some R) (hl:(Nat.beq 1 i.size&&Nat.ble (Nat.add f 1) sz)=true):
  aP E B (.store t a c) s (s.set K (.hole e sz (Q.set j (bZ R f [.undef])) (j*sz+f) x)) (.tup []) (some (K,false)):=aP.wr hb fun {F g φ tm h new} r=>by
 rw[Bool.and_eq_true] at hl;have hs:1=i.size:=(beq_iff _ _).1 hl.1;have hf:f+1≤sz:=Nat.le_of_ble_eq_true hl.2;obtain ⟨va,a1,a2⟩:=r.val ha (by simp)
 obtain ⟨vc,c1,c2⟩:=r.val hc (fun e=>by subst e;cases hx)
 obtain ⟨ws,w1,w2⟩:=m5 c2 hx;have hq:=r.bx K _ hb;generalize hfp:φ K=fp at hq ⊢;have hlt:j<Q.length:=(List.getElem?_eq_some_iff.1 hj).1;cases hq with
 |df=>cases hlt
 | @rows _ _ _ _ svs hb' hh hz hu eM q=>
  cases a2;have hlen:=gj eM;have hjs:j*sz+sz≤Q.length*sz:=by
   have:(j+1)*sz≤Q.length*sz:=Nat.mul_le_mul_right _ (by omega)
   rw[Nat.add_mul,Nat.one_mul] at this;exact this
  have hR:R.length=sz:=hu R (List.mem_of_getElem? hj);cases w2 with|cons hw1 hw2=>
  rename_i w ws';cases hw2;refine ⟨.tup [],.cells e (bI svs (j*sz+f) [w]),?_,.tup .nil,rfl,fun hp' hh'=>.hole (v:=w) hb' hh' (fun r hr=> ?_) ?_ ?_ ?_ ?_ hw1⟩
  ·show two tm a c (fun a v=>unit (jb E h.hp.get t v a))=_
   unfold two;rw[a1,c1];refine tz hi w1 hh ?_;rw[Bool.and_eq_true];exact ⟨hl.1,Nat.ble_eq_true_of_le (show j*sz+f+1≤svs.length by omega)⟩
  ·rcases List.mem_or_eq_of_mem_set hr with hr|rfl
   ·exact hu r hr
   ·rw[mH (by simp;omega)];exact hR
  ·rw[List.length_set,nq (by simp;omega)];exact eM
  ·rw[List.length_set,nD hu hj (by simpa using hf),np (by simp;omega) hlen]
   exact js q (.one (.undef w)) _
  ·rw[List.length_set];omega
  ·show (svs.take (j*sz+f)++ [w]++svs.drop (j*sz+f+1))[j*sz+f]? =some w;rw[List.append_assoc,List.getElem?_append_right (by rw[List.length_take];omega),List.length_take,Nat.min_eq_left (by omega),Nat.sub_self]
   rfl
theorem adS {c:Call} {a b:Operand} {t1 t2:TypeId} {K lo n m:Nat} {p:TypeId×TI} {z:Bool} {e:TypeId} {Q R Q':List (List AV)} {y:AV} (iU:c.callee= .builtin .copy) (fw:c.args.toList= [a,b]) (mU:c.argTypes.toList= [t1,t2]) (hp':fU E t1=some p) (hok:da p.2=true)
  (ha:aJ s.ts a= .ms K p.2.size lo n) (hb:aJ s.ts b=y) (lK:nH s p.2.size y R) (hn:lo+n≤Q.length) (hm:m=min R.length n) (hQ':Q'=Q.take lo++R.take m++Q.drop (lo+m)) (hbx:lk K s.bs=some (.rows z e p.2.size Q)) (hne:Q≠ []) (hn0:lo=0∨0<n):
  aP E B (.call c) s (s.set K (.rows z e p.2.size Q')) (.int .i64 (m:Int)) (some (K,false)):=aP.wr hbx fun {F g φ tm h new} r=>by
 obtain ⟨i,hi,he,hie⟩:=gV hp';obtain ⟨v,v1,v2⟩:=r.val ha (by simp)
 obtain ⟨w,w1,w2⟩:=r.val hb lK.1;obtain ⟨xs,x1,x2,x3⟩:=lK.2 r w2;have hq:=r.bx K _ hbx;generalize hfp:φ K=fp at hq ⊢;cases hq with
 |df=>exact absurd rfl hne
 | @rows _ _ _ _ svs hb' hh hz hu eM q=>
  have hv:v= .sl (g.ρ K) (lo*p.2.size) n (kN (g.κ K) lo):=by
   cases v2 with
   |msN s hb0=>rw[hb'] at hb0;cases hb0
   |msE=>omega
   |ms=>rfl
  subst hv;have hlen:=gj eM;have hmR:m≤R.length:=by omega
  have hmn:m≤n:=by omega
  have hx2:xs.length=R.length*p.2.size:=by rw[x2.length,qm x3]
  have hms:m*p.2.size≤R.length*p.2.size:=Nat.mul_le_mul_right _ hmR;have hxt:(xs.take (m*p.2.size)).length=m*p.2.size:=by rw[List.length_take];omega
  have vK:lo*p.2.size+m*p.2.size≤Q.length*p.2.size:=by rw[←Nat.add_mul];exact Nat.mul_le_mul_right _ (by omega)
  have hQl:Q'.length=Q.length:=by rw[hQ',List.length_append,List.length_append,List.length_take,List.length_take,List.length_drop];omega
  have hfl:Q'.flatten=bZ Q.flatten (lo*p.2.size) (R.take m).flatten:=by
   rw[hQ',List.flatten_append,List.flatten_append,iM hu,ju hu];unfold bZ;rw[qm (fun r hr=>x3 r (List.mem_of_mem_take hr)),List.length_take,Nat.min_eq_left hmR,Nat.add_mul]
   rfl
  refine ⟨.int .i64 (.lit (.ofNat m)),.cells e (bI svs (lo*p.2.size) (xs.take (m*p.2.size))),?_,.int _ _,rfl,fun hp' hh'=>.rows hb' hh' (fun hz0 hc=> ?_) (fun r hr=> ?_) ?_ ?_⟩
  ·show fJ E tm h.hp.get new c=_;unfold fJ;rw[iU];show ai (bF tm c.args.toList) (fun aa=>gd E h.hp.get new .copy aa c.argTypes.toList)=_
   rw[fw,mU];have e1:bF tm [a,b]=some [.sl (g.ρ K) (lo*p.2.size) n (kN (g.κ K) lo),w]:=by
    show aF (aI tm a) (aF (aI tm b) (some []) fun v l=>some (v::l)) (fun v l=>some (v::l))=_
    rw[v1,w1];rfl
   rw[e1];show ly E h.hp.get t1 (.sl (g.ρ K) (lo*p.2.size) n (kN (g.κ K) lo)) w=_;unfold ly;rw[cW hi,cW he];unfold Rk;rw[cW hie,hok];show aF (some n) (iW h.hp.get p.2.size w) (fun nd q=>qs (.sl (g.ρ K) (lo*p.2.size) n (kN (g.κ K) lo)) h.hp.get p.2.size (sel (Nat.ble q.1 nd) q.1 nd) q.2)=_
   rw[m7 rfl x1];show sX h.hp.get p.2.size (sel (Nat.ble R.length n) R.length n) xs (g.ρ K) (lo*p.2.size)=_;have em:sel (Nat.ble R.length n) R.length n=m:=by
    rw[aC];split
    ·rename_i hle;have:=Nat.le_of_ble_eq_true hle;omega
    ·rename_i hle;have:¬R.length≤n:=fun hc=>hle (Nat.ble_eq_true_of_le hc)
     omega
   rw[em];unfold sX;rw[hh];show sel (Nat.ble (Nat.add (lo*p.2.size) (Nat.mul m p.2.size)) svs.length) (some (SV.int .i64 (.lit (.ofNat m)),[(g.ρ K,some (SO.cells e (bI svs (lo*p.2.size) (xs.take (Nat.mul m p.2.size)))))])) none=_;rw[show Nat.ble (Nat.add (lo*p.2.size) (Nat.mul m p.2.size)) svs.length=true from Nat.ble_eq_true_of_le (show lo*p.2.size+m*p.2.size≤svs.length by omega)]
   rfl
  ·have:=congrArg List.length hc;rw[hQl] at this;exact hne (List.length_eq_zero_iff.1 this)
  ·rw[hQ'] at hr;rcases List.mem_append.1 hr with hr|hr
   ·rcases List.mem_append.1 hr with hr|hr
    ·exact hu r (List.mem_of_mem_take hr)
    ·exact x3 r (List.mem_of_mem_take hr)
   ·exact hu r (List.mem_of_mem_drop hr)
  ·rw[hQl,nq (by omega)];exact eM
  ·rw[hQl,np (by omega) hlen,hfl]
   refine js q ?_ _;rw[iM x3];exact x2.take _
end
section
variable {F F':Hf} {g g':Gb} {B:Bs} {φ:Nat→List Nat} {s s' s1:LS} {tm:Tf} {h:Hs} {hp:Hf} {E:Env} {nt:Nat} {all l:List Oper}
def mz (ts:List (Nat×AV)):Option Operand→Option (Option Int)
 |none=>some none
 |some x=>(match aJ ts x with| .int _ n=>some (some n)|_=>none)
theorem we (r:Rel B F g φ s tm h) {o:Option Operand} {b:Option Int} {d n:Nat} (hb:mz s.ts o=some b) (hn:b.getD d=(n:Int)):∃c,dv tm o=some c∧c.getD d=n∧c.isSome=b.isSome∧∀m,c=some m→b=some (m:Int):=by
 cases o with
 |none=>
  cases hb;have h0:(d:Int)=(n:Int):=hn;exact ⟨none,rfl,(show d=n by omega),rfl,fun m hm=>by cases hm⟩
 |some x=>
  have hb:(match aJ s.ts x with| .int _ n=>some (some n)|_=>none)=some b:=hb
  split at hb
  ·rename_i k m hv;cases hb;have hm:m=(n:Int):=hn;subst hm;obtain ⟨v,v1,v2⟩:=r.val hv (by simp)
   cases v2;refine ⟨some n,?_,rfl,rfl,fun m hm=>by cases hm;rfl⟩
   show ai (aI tm x) (fun v=>ai (eX v) fun n=>some (some n))=_
   rw[v1];rfl
  ·cases hb
theorem yH {t:TypeId} {a:Operand} {lo hi mx:Option Operand} {v:SV} {c1 c2 c3:Option Nat} {e:TypeId} {i ie:TI} (hi':E.ty.get t=some i) (hd:je i.desc=some e) (he:E.ty.get e=some ie) (hv:aI tm a=some v) (h1:dv tm lo=some c1) (h2:dv tm hi=some c2) (h3:dv tm mx=some c3) (hm:FG c2 c3=true) {new:Nat}:
  opA E (.slice t a lo hi mx) tm hp new=same (Ab v E e c1 c2 c3):=by
 show one tm a (fun v=>o7 (dv tm lo) (dv tm hi) (dv tm mx) fun l u m=>same (pL E t v l u m))=_
 unfold one;rw[hv,h1,h2,h3];show same (pL E t v c1 c2 c3)=_;unfold pL;rw[hi'];show same (sel (FG c2 c3) (Uz i.desc E v c1 c2 c3) none)=_;rw[hm,jT hd];show same (ai (E.ty.get e) fun _=>Ab v E e c1 c2 c3)=_
 rw[he];rfl
theorem ZU {id off n l u s':Nat} {c:Cp} {e e':TypeId} {svs:List SV} {rows:List (List AV)} (hF:cD (F id) off (rows.length*s')=some (e',svs)) (hu:∀r∈rows,r.length=s') (hl:off+rows.length*s'≤svs.length) (hq:VAs F .no ((svs.drop off).take (rows.length*s')) rows.flatten) (h1:l≤u) (h2:u≤rows.length) (hc:su e u c):VA F g (mu id off l u s' c) (.slx e s' ((rows.drop l).take (u-l)))∧(l=0→VA F g (mu id off l u s' c) (.slice e s' ((rows.drop l).take (u-l)))):=by
 have hlen:((rows.drop l).take (u-l)).length=u-l:=by rw[List.length_take,List.length_drop];omega
 have hus:∀r∈(rows.drop l).take (u-l),r.length=s':=fun r hr=>hu r (List.mem_of_mem_drop (List.mem_of_mem_take hr))
 have hle:l*s'+(u-l)*s'≤rows.length*s':=by rw[←Nat.add_mul];exact Nat.mul_le_mul_right _ (by omega)
 have hq2:VAs F .no ((svs.drop (off+l*s')).take ((u-l)*s')) ((rows.drop l).take (u-l)).flatten:=by
  have:=(hq.drop (l*s')).take ((u-l)*s');rwa[List.drop_take,List.take_take,List.drop_drop,Nat.min_eq_left (by omega),←IX hu] at this
 unfold mu;rw[aC,aC];split
 ·rename_i e0;obtain rfl:=(beq_iff _ _).1 e0;have k1:=kK hF (Nat.le_refl _) (Nat.add_le_add_left (Nat.mul_le_mul_right _ h2) _);have k2:off+u*s'≤svs.length:=by rw[Nat.zero_mul] at hle;rw[Nat.sub_zero] at hle;omega
  have k3:u=((rows.drop 0).take (u-0)).length:=by rw[hlen,Nat.sub_zero]
  exact ⟨.slx k1 hc k3 hus k2 (by simpa using hq2),fun _=>.slice k1 hc k3 hus k2 (by simpa using hq2)⟩
 ·rename_i e0;have e0:l≠0:=fun h=>e0 ((beq_iff _ _).2 h)
  refine ⟨?_,fun h=>absurd h e0⟩
  split
  ·rename_i hlt;have hlt:l<u:=Nat.le_of_ble_eq_true hlt;refine .slx (kK hF (show off≤off+l*s' from Nat.le_add_right _ _) (show off+l*s'+(u-l)*s'≤off+rows.length*s' by omega)) ?_ (by rw[hlen];rfl) hus (show off+l*s'+(u-l)*s'≤svs.length by omega) hq2
   cases c with
   |k m=>exact (show u-l≤m-l from Nat.sub_le_sub_right hc l)
   |u e'=>exact hc
  ·rename_i hlt;have hul:u=l:=by
    have:¬l<u:=fun hc=>hlt (Nat.ble_eq_true_of_le hc)
    omega
   subst hul;rw[Nat.sub_self,List.take_zero];exact .rR e s'
def zr (y:AV) (lo:Option Operand) (e s:Nat) (R:List (List AV)):AV:=
 match lo with
 |some _=>.slx e s R
 |none=>(match y with
  | .slx _ _ _=>.slx e s R
  |_=>.slice e s R)
theorem Xn {y:AV} {lo:Option Operand} {e s:Nat}:VA F g .aR (zr y lo e s []):=by
 unfold zr;split
 ·exact .mI _ _
 ·split
  ·exact .mI _ _
  ·exact .jN _ _
theorem ZW {y:AV} {lo:Option Operand} {e s:Nat} {q:TypeId×Nat×List (List AV)} (hv:VA F g .sle y) (hy:kZ y=some q):VA F g .sle (zr y lo e s []):=by
 cases hv with
 |rR=>cases lo<;>exact .rR _ _
 |_=>cases hy
theorem aer {y:AV} {v:SV} {lo:Option Operand} {e s l:Nat} {R:List (List AV)} (h1:VA F g v (.slx e s R)) (h2:l=0→VA F g v (.slice e s R)) (hl:lo=none→l=0):VA F g v (zr y lo e s R):=by
 unfold zr;split
 ·exact h1
 ·split
  ·exact h1
  ·exact h2 (hl rfl)
theorem ok_slice {t:TypeId} {a:Operand} {lo hi:Option Operand} {p:TypeId×TI} {y:AV} {rows R:List (List AV)} {b1 b2:Option Int} {l u:Nat} (hp:fU E t=some p) (ha:aJ s.ts a=y) (hy:kZ y=some (p.1,p.2.size,rows)) (h1:mz s.ts lo=some b1) (h2:mz s.ts hi=some b2)
  (hb1:b1.getD 0=(l:Int)) (hb2:b2.getD (rows.length:Nat)=(u:Int)) (hlu:l≤u) (hum:u≤rows.length) (hR:(rows.drop l).take (u-l)=R):aP E B (.slice t a lo hi none) s s (zr y lo p.1 p.2.size R) none:=aP.pure fun {F g φ tm h new} r=>by
 subst hR;obtain ⟨i,hi',he,hie⟩:=gV hp;obtain ⟨v,v1,v2⟩:=r.val ha (fun e=>by subst e;cases hy)
 obtain ⟨c1,d1,d2,d3,d4⟩:=we (d:=0) r h1 hb1;obtain ⟨c2,f1,f2,f3,f4⟩:=we (d:=rows.length) r h2 hb2;have z1:l=0→fc c1=true:=fun h=>by
  cases c1 with
  |none=>rfl
  |some x=>exact (beq_iff _ _).2 (by have:x=l:=d2;omega)
 have z2:u=0→fc c2=true:=fun h=>by
  cases c2 with
  |none=>rfl
  |some x=>exact (beq_iff _ _).2 (by have:x=u:=f2;omega)
 have go:=fun v (hv:aI tm a=some v)=>yH (new:=new) (hp:=h.hp.get) (mx:=none) (c3:=none) hi' he hie hv d1 f1 rfl rfl
 rcases oX v2 hy with ⟨rfl,rfl|rfl⟩|⟨id,off,c,e',svs,rfl,hct,hF,hu,hl,hq⟩
 ·have hu0:u=0:=Nat.le_zero.1 hum;have hl0:l=0:=by omega
  refine ⟨.aR,?_,by simpa using Xn⟩
  rw[go _ v1];show same (sel (fc c1&&(fc c2&&true)) (some SV.aR) none)=_;rw[z1 hl0,z2 hu0];rfl
 ·have hu0:u=0:=Nat.le_zero.1 hum;have hl0:l=0:=by omega
  refine ⟨.sle,?_,by simpa using ZW v2 hy⟩
  rw[go _ v1];show same (sel (fc c1&&(fc c2&&true)) (some SV.sle) none)=_;rw[z1 hl0,z2 hu0];rfl
 ·have hcu:su p.1 u c:=by
   cases c with
   |k m=>exact Nat.le_trans hum hct
   |u e'=>exact hct
  have hcut:=ZU (g:=g) (n:=rows.length) hF hu hl hq hlu hum hcu;refine ⟨mu id off l u p.2.size c,?_,aer hcut.1 hcut.2 fun h0=> ?_⟩
  rotate_left
  ·subst h0;cases h1;have:(0:Int)=(l:Int):=hb1;omega
  rw[go _ v1];show same (jd E p.1 id off rows.length c c1 c2 none)=_;unfold jd;rw[cW hie,d2,f2];have e1:(nJ c p.1&&(Nat.ble l u&&(Nat.ble u (reach c rows.length)&&FF none u (reach c rows.length))))=true:=by
   have t1:nJ c p.1=true:=by
    cases c with
    |k m=>rfl
    |u e'=>exact (beq_iff _ _).2 hct
   have t2:Nat.ble u (reach c rows.length)=true:=Nat.ble_eq_true_of_le (by
    cases c with
    |k m=>exact Nat.le_trans hum hct
    |u e'=>exact hum)
   rw[t1,(aX _ _).2 hlu,t2];rfl
  rw[e1];rfl
def F6:AV→Option (TypeId×Nat×List (List AV))
 | .slice e s rows=>some (e,s,rows)
 | .sln e s rows=>some (e,s,rows)
 | .slf e s rows=>some (e,s,rows)
 |_=>none
theorem M4 {v:SV} {x:AV} {e:TypeId} {sz:Nat} {rows:List (List AV)} (q:VA F g v x) (hx:F6 x=some (e,sz,rows)):(rows= []∧v= .aR)∨∃id off c e' svs,v= .sl id off rows.length c∧su e rows.length c∧cD (F id) off (rows.length*sz)=some (e',svs)∧(∀r∈rows,r.length=sz)∧off+rows.length*sz≤svs.length∧VAs F .no ((svs.drop off).take (rows.length*sz)) rows.flatten:=by
 have hd:kZ x=some (e,sz,rows):=by unfold F6 at hx;split at hx<;>first|exact hx|cases hx
 rcases oX q hd with ⟨h1,h2|h2⟩|h
 ·exact .inl ⟨h1,h2⟩
 ·subst h2;cases q<;>cases hx
 ·exact .inr h
theorem Wn {t:TypeId} {a:Operand} {hi mx:Operand} {p:TypeId×TI} {y:AV} {rows R:List (List AV)} {b2 b3:Int} {u:Nat} (hp:fU E t=some p) (ha:aJ s.ts a=y) (hy:F6 y=some (p.1,p.2.size,rows)) (h2:mz s.ts (some hi)=some (some b2)) (h3:mz s.ts (some mx)=some (some b3))
  (hb2:b2=(u:Int)) (hb3:b3=(u:Int)) (hum:u≤rows.length) (hR:rows.take u=R):aP E B (.slice t a none (some hi) (some mx)) s s (.slf p.1 p.2.size R) none:=aP.pure fun {F g φ tm h new} r=>by
 subst hR;subst hb2;subst hb3;obtain ⟨i,hi',he,hie⟩:=gV hp;obtain ⟨v,v1,v2⟩:=r.val ha (fun e=>by subst e;cases hy)
 have bnd:∀{o:Operand},mz s.ts (some o)=some (some (u:Int))→dv tm (some o)=some (some u):=fun {o} ho=>by
  obtain ⟨c,c1,c2,c3,c4⟩:=we (d:=0) (n:=u) r ho rfl;cases c with
  |none=>cases c3
  |some m=>rw[c1];rw[show m=u from c2]
 have go:=fun v (hv:aI tm a=some v)=>yH (new:=new) (hp:=h.hp.get) (lo:=none) (c1:=none) hi' he hie hv rfl (bnd h2) (bnd h3) rfl
 have hlen:(rows.take u).length=u:=by rw[List.length_take];omega
 rcases M4 v2 hy with ⟨rfl,rfl⟩|⟨id,off,c,e',svs,rfl,hct,hF,hu,hl,hq⟩
 ·have hu0:u=0:=Nat.le_zero.1 hum;subst hu0;refine ⟨.aR,?_,by simpa using VA.rS p.1 p.2.size⟩
  rw[go _ v1];rfl
 ·have hle:u*p.2.size≤rows.length*p.2.size:=Nat.mul_le_mul_right _ hum;refine ⟨.sl id off u (.k u),?_,.slf (kK hF (Nat.le_refl _) (Nat.add_le_add_left hle _)) hlen.symm (fun r hr=>hu r (List.mem_of_mem_take hr)) (by omega) ?_⟩
  ·rw[go _ v1];show same (jd E p.1 id off rows.length c none (some u) (some u))=_;unfold jd;rw[cW hie];have e1:(nJ c p.1&&(Nat.ble 0 u&&(Nat.ble u (reach c rows.length)&&(Nat.ble u u&&Nat.ble u (reach c rows.length)))))=true:=by
    have t1:nJ c p.1=true:=by
     cases c with
     |k m=>rfl
     |u e'=>exact (beq_iff _ _).2 hct
    have t2:Nat.ble u (reach c rows.length)=true:=Nat.ble_eq_true_of_le (by
     cases c with
     |k m=>exact Nat.le_trans hum hct
     |u e'=>exact hum)
    rw[t1,t2,(aX _ _).2 (Nat.zero_le u),(aX _ _).2 (Nat.le_refl u)];rfl
   show same (sel (nJ c p.1&&(Nat.ble 0 u&&(Nat.ble u (reach c rows.length)&&(Nat.ble u u&&Nat.ble u (reach c rows.length))))) _ none)=_;rw[e1];rfl
  ·have:=hq.take (u*p.2.size);rw[List.take_take,Nat.min_eq_left hle] at this;rwa[iM hu]
theorem Js {c:Call} {a b:Operand} {t1 t2:TypeId} {i2:TI} {v w:SV} (iU:c.callee= .builtin .append) (fw:c.args.toList= [a,b]) (mU:c.argTypes.toList= [t1,t2]) (hi2:E.ty.get t2=some i2) (eA:j0 i2.desc=true) (v1:aI tm a=some v) (w1:aI tm b=some w) {new:Nat}:opA E (.call c) tm hp new=fC E hp new t1 v w:=by
 show fJ E tm hp new c=_;unfold fJ;rw[iU];show ai (bF tm c.args.toList) (fun aa=>gd E hp new .append aa c.argTypes.toList)=_
 rw[fw,mU];have e1:bF tm [a,b]=some [v,w]:=by
  show aF (aI tm a) (aF (aI tm b) (some []) fun v l=>some (v::l)) (fun v l=>some (v::l))=_
  rw[v1,w1];rfl
 rw[e1];show ai (E.ty.get t2) (fun i=>sel (j0 i.desc) (fC E hp new t1 v w) none)=_
 rw[cW hi2,eA]
theorem PE {c:Call} {a b:Operand} {t1 t2 e0:TypeId} {K:Nat} {p:TypeId×TI} {Q R:List (List AV)} {i2:TI} {y:AV} (iU:c.callee= .builtin .append) (fw:c.args.toList= [a,b]) (mU:c.argTypes.toList= [t1,t2]) (hp':fU E t1=some p) (hok:da p.2=true) (hi2:E.ty.get t2=some i2) (eA:j0 i2.desc=true)
  (ha:aJ s.ts a= .slf e0 p.2.size Q) (hb:aJ s.ts b=y) (lK:nH s p.2.size y R) (hR0:R≠ []) (hn6:Q.length≤1000000) (hR:R.length≤1000000) (hk:s.free K) (hpk:B.pk K=false):
  aP E B (.call c) s (s.set K (.rows true p.1 p.2.size (Q++R))) (.ms K p.2.size 0 (Q++R).length) (some (K,true)):=aP.lay hk hpk fun {F g φ tm h new} r=>by
 obtain ⟨i,hi,he,hie⟩:=gV hp';obtain ⟨v,v1,v2⟩:=r.val ha (by simp)
 obtain ⟨w,w1,w2⟩:=r.val hb lK.1;obtain ⟨xs,x1,x2,x3⟩:=lK.2 r w2;have hm0:R.length≠0:=fun h=>hR0 (List.length_eq_zero_iff.1 h)
 have key:∃old,nF v h.hp.get new p.1 p.2.size R.length xs=some (.sl new 0 (Nat.add Q.length R.length) (.u p.1),[(new,some (.cells p.1 (old++xs)))])∧VAs F .no old Q.flatten∧∀r∈Q,r.length=p.2.size:=by
  cases v2 with
  |rS=>exact ⟨[],by rw[show Nat.add ([]:List (List AV)).length R.length=R.length from Nat.zero_add _];rfl,.nil,fun r hr=>by cases hr⟩
  | @slf _ id off n _ _ _ e' svs hF hn hu hl hq=>
   subst hn;refine ⟨(svs.drop off).take (Q.length*p.2.size),?_,hq,hu⟩;show rJ h.hp.get new p.1 p.2.size R.length xs id off Q.length (.k Q.length)=_;unfold rJ;rw[(aX _ _).2 hn6];show sel (Nat.ble (Nat.succ Q.length) (Nat.add Q.length R.length)) _ _=_;rw[(aX (Nat.succ Q.length) (Nat.add Q.length R.length)).2 (show Q.length+1≤Q.length+R.length by omega)]
   refine cW (a:=((svs.drop off).take (Q.length*p.2.size))) ?_;unfold eH;rw[show cD (h.hp.get id) off (Nat.mul Q.length p.2.size)=some (e',svs) from g4 r.sub hF];show sel (Nat.ble (Nat.add off (Nat.mul Q.length p.2.size)) svs.length) (some ((svs.drop off).take (Q.length*p.2.size))) none=_;rw[(aX (Nat.add off (Nat.mul Q.length p.2.size)) svs.length).2 hl]
 obtain ⟨old,k1,k2,k3⟩:=key;have hus:∀r∈Q++R,r.length=p.2.size:=fun x hx=>(List.mem_append.1 hx).elim (k3 x) (x3 x)
 have hl:(old++xs).length=(Q++R).length*p.2.size:=by rw[←qm hus,List.flatten_append,←(k2.append x2).length]
 refine ⟨.sl new 0 (Nat.add Q.length R.length) (.u p.1),.cells p.1 (old++xs),?_,by rw[List.length_append];exact PQ,xj (fun _ hc=>hR0 (List.append_eq_nil_iff.1 hc).2) hus (show uH p.1 p.2.size (Q++R).length (old++xs).length (.u p.1) from ⟨rfl,by rw[hl];exact Nat.le_refl _⟩) ?_⟩
 ·rw[Js iU fw mU hi2 eA v1 w1,wi hi he hie hok x1 hR,show Nat.beq R.length 0=false from by
   cases hx:Nat.beq R.length 0 with
   |false=>rfl
   |true=>exact absurd ((beq_iff _ _).1 hx) hm0]
  exact k1
 ·rw[←hl,List.take_length,List.flatten_append];exact k2.append x2
theorem MS {c:Call} {a b:Operand} {t1 t2 e0:TypeId} {p:TypeId×TI} {Q:List (List AV)} {i2:TI} {y:AV} (iU:c.callee= .builtin .append) (fw:c.args.toList= [a,b]) (mU:c.argTypes.toList= [t1,t2]) (hp':fU E t1=some p) (hok:da p.2=true) (hi2:E.ty.get t2=some i2) (eA:j0 i2.desc=true)
  (ha:aJ s.ts a= .slf e0 p.2.size Q) (hb:aJ s.ts b=y) (lK:nH s p.2.size y []):aP E B (.call c) s s (.slf e0 p.2.size Q) none:=aP.pure fun {F g φ tm h new} r=>by
 obtain ⟨i,hi,he,hie⟩:=gV hp';obtain ⟨v,v1,v2⟩:=r.val ha (by simp)
 obtain ⟨w,w1,w2⟩:=r.val hb lK.1;obtain ⟨xs,x1,x2,x3⟩:=lK.2 r w2;refine ⟨v,?_,v2⟩;rw[Js iU fw mU hi2 eA v1 w1,wi hi he hie hok x1 (Nat.zero_le _)];show sel (vD v) (some (v,[])) none=_;rw[show vD v=true from by cases v2<;>rfl]
theorem X7 (c:Cp) (a b:Nat):kN (kN c a) b=kN c (a+b):=by
 cases c with
 |k m=>exact congrArg Cp.k (Nat.sub_sub m a b)
 |u e=>rfl
theorem ML {t:TypeId} {a:Operand} {lo hi:Option Operand} {p:TypeId×TI} {K lo0 n:Nat} {z:Bool} {Q:List (List AV)} {b1 b2:Option Int} {l u:Nat} (hp:fU E t=some p) (ha:aJ s.ts a= .ms K p.2.size lo0 n) (hb:lk K s.bs=some (.rows z p.1 p.2.size Q)) (h1:mz s.ts lo=some b1) (h2:mz s.ts hi=some b2)
  (hb1:b1.getD 0=(l:Int)) (hb2:b2.getD (n:Nat)=(u:Int)) (hlu:l≤u) (hum:u≤n) (hn:lo0+n≤Q.length):aP E B (.slice t a lo hi none) s s (.ms K p.2.size (lo0+l) (u-l)) none:=aP.pure fun {F g φ tm h new} r=>by
 obtain ⟨i,hi',he,hie⟩:=gV hp;obtain ⟨v,v1,v2⟩:=r.val ha (by simp)
 obtain ⟨c1,d1,d2,d3,d4⟩:=we (d:=0) r h1 hb1;obtain ⟨c2,f1,f2,f3,f4⟩:=we (d:=n) r h2 hb2;have z1:l=0→fc c1=true:=fun h=>by
  cases c1 with
  |none=>rfl
  |some x=>exact (beq_iff _ _).2 (by have:x=l:=d2;omega)
 have z2:u=0→fc c2=true:=fun h=>by
  cases c2 with
  |none=>rfl
  |some x=>exact (beq_iff _ _).2 (by have:x=u:=f2;omega)
 have go:=fun v (hv:aI tm a=some v)=>yH (new:=new) (hp:=h.hp.get) (mx:=none) (c3:=none) hi' he hie hv d1 f1 rfl rfl
 cases v2 with
 |msN _ hb0=>
  have hu0:u=0:=Nat.le_zero.1 hum;have hl0:l=0:=by omega
  subst hu0;subst hl0;refine ⟨.aR,?_,.msN _ hb0⟩;rw[go _ v1];show same (sel (fc c1&&(fc c2&&true)) (some SV.aR) none)=_;rw[z1 rfl,z2 rfl];rfl
 |msE _ _ h0=>
  have hu0:u=0:=Nat.le_zero.1 hum;have hl0:l=0:=by omega
  subst hu0;subst hl0;refine ⟨.sle,?_,.msE _ _ h0⟩;rw[go _ v1];show same (sel (fc c1&&(fc c2&&true)) (some SV.sle) none)=_;rw[z1 rfl,z2 rfl];rfl
 |ms _ _ _ hb0=>
  have q:=r.bx K _ hb;generalize φ K=fp at q;cases q with
  |df hb1=>rw[hb0] at hb1;cases hb1
  | @rows _ _ _ _ svs hb' hh hz hu hc q=>
  have eM:su p.1 n (kN (g.κ K) lo0):=by
   cases hκ:g.κ K with
   |k m=>rw[hκ] at hc;have:=hc.1;exact (show n≤m-lo0 by omega)
   |u e'=>rw[hκ] at hc;exact hc.1
  refine ⟨mu (g.ρ K) (lo0*p.2.size) l u p.2.size (kN (g.κ K) lo0),?_,?_⟩
  ·rw[go _ v1];show same (jd E p.1 (g.ρ K) (lo0*p.2.size) n (kN (g.κ K) lo0) c1 c2 none)=_;unfold jd;rw[cW hie,d2,f2];generalize kN (g.κ K) lo0=c at eM;have e1:(nJ c p.1&&(Nat.ble l u&&(Nat.ble u (reach c n)&&FF none u (reach c n))))=true:=by
    have t1:nJ c p.1=true:=by
     cases c with
     |k m=>rfl
     |u e'=>exact (beq_iff _ _).2 eM
    have t2:Nat.ble u (reach c n)=true:=Nat.ble_eq_true_of_le (by
     cases c with
     |k m=>exact Nat.le_trans hum eM
     |u e'=>exact hum)
    rw[t1,(aX _ _).2 hlu,t2];rfl
   rw[e1];rfl
  ·unfold mu;rw[aC,aC];split
   ·rename_i e0;obtain rfl:=(beq_iff _ _).1 e0;rw[Nat.add_zero,Nat.sub_zero];exact .ms _ lo0 u hb0
   ·rename_i e0;have e0:l≠0:=fun h=>e0 ((beq_iff _ _).2 h)
    split
    ·rw[X7];rw[show Nat.add (lo0*p.2.size) (Nat.mul l p.2.size)=(lo0+l)*p.2.size from (Nat.add_mul _ _ _).symm];exact .ms _ (lo0+l) (u-l) hb0
    ·rename_i hlt;have hul:u=l:=by
      have:¬l<u:=fun hc=>hlt (Nat.ble_eq_true_of_le hc)
      omega
     subst hul;rw[Nat.sub_self];exact .msE _ _ (by omega)
theorem Yj {P:Program} {t:TypeId} {k:IntKind} {m n:Int} (hn:n≠0):cF P (binOp .rem t (.int k m) (.int k n))=some (.int k (m.tmod n)):=by
 have:binOp .rem t (.int k m) (.int k n)=Sem.pure (.int k (m.tmod n)):=by
  simp[binOp,Op.intDiv,hn,pure]
 rw[this];rfl
theorem Yl {P:Program} {t:TypeId} {k:IntKind} {m n:Int} (hn:n≠0):cF P (binOp .quo t (.int k m) (.int k n))=some (.int k (k.wrap (m.tdiv n))):=by
 have:binOp .quo t (.int k m) (.int k n)=Sem.pure (.int k (k.wrap (m.tdiv n))):=by
  simp[binOp,Op.intDiv,hn,pure]
 rw[this];rfl
def divL (op:BinOp) (k:IntKind) (m n:Int):Option AV:=
 match op with
 | .rem=>some (.int k (m.tmod n))
 | .quo=>some (.int k (k.wrap (m.tdiv n)))
 |_=>none
theorem afu {op:BinOp} {t t2:TypeId} {a b:Operand} {k k':IntKind} {m n:Int} {x:AV} (ha:aJ s.ts a= .int k m) (hb:aJ s.ts b= .int k' n) (hk:bV k k'=true) (hn:n≠0) (hx:divL op k m n=some x):aP E B (.binOp op t a b t2) s s x none:=aP.bi (f:=fun _ v u=>same (sj E op t a b v u)) (fun _ _ _=>rfl) ha (by simp) hb (by simp) fun {F g φ tm h v w} r hv hw=>by
 have ek:k=k':=by cases k<;>cases k'<;>first|rfl|(cases hk;done)
 subst ek;cases hv;cases hw;cases op<;>first|(cases hx;done)|skip
 ·cases hx;refine ⟨.int k (.lit (k.wrap (m.tdiv n))),?_,.int _ _⟩;show same (fR (cF E.P (binOp .quo t (.int k m) (.int k n))))=_;rw[Yl hn];rfl
 ·cases hx;refine ⟨.int k (.lit (m.tmod n)),?_,.int _ _⟩;show same (fR (cF E.P (binOp .rem t (.int k m) (.int k n))))=_;rw[Yj hn];rfl
theorem Z1 {P:Program} {t:TypeId} {a b:ByteArray} (hn:a.size+b.size≤1000000):cF P (binOp .add t (.string a) (.string b))=some (.string (a++b)):=by
 have h1:¬(((a.size+b.size:Nat):Int)>IntKind.i64.max):=by
  have:IntKind.i64.max=9223372036854775807:=by decide
  omega
 have:binOp .add t (.string a) (.string b)=Sem.pure (.string (a++b)):=by
  show Op.stringOp .add a b=_;unfold Op.stringOp;simp only[];rw[if_neg h1];rfl
 rw[this];rfl
theorem afv {t t2:TypeId} {a b:Operand} {x y:ByteArray} (ha:aJ s.ts a= .str x) (hb:aJ s.ts b= .str y) (hn:x.size+y.size≤1000000):aP E B (.binOp .add t a b t2) s s (.str (x++y)) none:=aP.bi (f:=fun _ v u=>same (sj E .add t a b v u)) (fun _ _ _=>rfl) ha (by simp) hb (by simp) fun {F g φ tm h v w} r hv hw=>by
 cases hv;cases hw;refine ⟨.str (x++y),?_,.str _⟩;show same (fR (cF E.P (binOp .add t (.string x) (.string y))))=_;rw[Z1 hn];rfl
theorem MP {t:TypeId} {a ix:Operand} {i:TI} {b:ByteArray} {k:IntKind} {n:Int} {c:UInt8} (hi:E.ty.get t=some i) (hd:nQ i.desc=true) (ha:aJ s.ts a= .str b) (hix:aJ s.ts ix= .int k n) (hc:kX b.data.toList n=some c):aP E B (.index t a ix) s s (.int .u8 (c.toNat:Int)) none:=aP.bi (f:=fun _ v u=>ai (eX u) fun k=>jV E t k v) (fun _ _ _=>rfl) ha (by simp) hix (by simp) fun {F g φ tm h v w} r hv hw=>by
 obtain ⟨j,hj,hc2⟩:=yv hc;subst hj;cases hv;cases hw;refine ⟨_,?_,.int _ _⟩;show jV E t j (.str b)=_;unfold jV;rw[cW hi];generalize i.desc=d at hd;cases d<;>first|(cases hd;done)|skip
 show ai (b.data.toList[j]?) (fun b=>some (SV.int .u8 (.lit (.ofNat b.toNat)),([]:List Up)))=_
 rw[cW hc2];rfl
end
section
variable {F F':Hf} {g g':Gb} {B:Bs} {φ:Nat→List Nat} {s s' s1:LS} {tm:Tf} {h:Hs} {hp:Hf} {E:Env} {nt:Nat} {all l:List Oper}
theorem adO {it:Operand} {K pos:Nat} {b:ByteArray} (ha:aJ s.ts it= .it K) (hb:lk K s.bs=some (.iter b pos)) (hlt:pos<b.size):aP E B (.next it true) s (s.set K (.iter b (pos+(Utf8.decode b pos).2))) (.tup [.bool true,.int .i64 (pos:Int),.int .i32 (Utf8.decode b pos).1]) (some (K,false)):=aP.wr hb fun {F g φ tm h new} r=>by
 obtain ⟨v,v1,v2⟩:=r.val ha (by simp)
 cases v2;have q:=r.bx K _ hb;generalize φ K=fp at q ⊢;cases q with
 |iter hh=>
 refine ⟨.tup [.bool true,kQ pos,.int .i32 (.lit (Utf8.decode b pos).1)],.gm b (pos+(Utf8.decode b pos).2),?_,.tup (.cons (.bool _) (.cons (.int _ _) (.cons (.int _ _) .nil))),rfl,fun hp' hh'=>.iter hh'⟩
 show one tm it (ma h.hp.get true)=_;unfold one;rw[v1];show ai (lP (.ptr (g.ρ K) 0)) (fun id=>ai (rj (h.hp.get id)) fun p=>some (iC id p))=_
 show ai (rj (h.hp.get (g.ρ K))) (fun p=>some (iC (g.ρ K) p))=_
 rw[hh];show some (iC (g.ρ K) (b,pos))=_;unfold iC;rw[show Nat.ble (Nat.succ pos) b.size=true from Nat.ble_eq_true_of_le hlt];rfl
theorem Pz {it:Operand} {K pos:Nat} {b:ByteArray} (ha:aJ s.ts it= .it K) (hb:lk K s.bs=some (.iter b pos)) (hlt:¬pos<b.size):aP E B (.next it true) s s (.tup [.bool false]) none:=aP.pure fun {F g φ tm h new} r=>by
 obtain ⟨v,v1,v2⟩:=r.val ha (by simp)
 cases v2;have q:=r.bx K _ hb;generalize φ K=fp at q;cases q with
 |iter hh=>
 refine ⟨.tup [.bool false],?_,.tup (.cons (.bool _) .nil)⟩;show one tm it (ma h.hp.get true)=_;unfold one;rw[v1];show ai (rj (h.hp.get (g.ρ K))) (fun p=>some (iC (g.ρ K) p))=_
 rw[hh];show some (iC (g.ρ K) (b,pos))=_;unfold iC;have:Nat.ble (Nat.succ pos) b.size=false:=by
  cases hx:Nat.ble (Nat.succ pos) b.size with
  |false=>rfl
  |true=>exact absurd (Nat.le_of_ble_eq_true hx) hlt
 rw[this]
def AL:AV→AV→Option Bool
 | .str a,.str b=>some (decide (a=b))
 | .bool a,.bool b=>some (a==b)
 | .int k a,.int k' b=>sel (bV k k') (some (decide (a=b))) none
 |_,_=>none
def JR:AV→UD→Bool
 | .str _,d=>nQ d
 | .bool _,d=>w9 d
 | .int k _,d=>Qp k d
 |_,_=>false
def iv (k:AV):List (AV×AV)→Option (Option (Nat×AV))
 | []=>some none
 |e::es=>
  match AL k e.1 with
  |some true=>some (some (0,e.2))
  |some false=>(match iv k es with|some (some p)=>some (some (p.1+1,p.2))|r=>r)
  |none=>none
theorem PZ {a b:IntKind} (h:bV a b=true):a=b:=by cases a<;>cases b<;>first|rfl|(cases h;done)
theorem YQ {k x:AV} {u v:SV} {b:Bool} (hu:VA F g u k) (hv:VA F g' v x) (hb:AL k x=some b):sameKey u v=some b:=by
 unfold AL at hb;split at hb
 ·cases hb;cases hu;cases hv;show some (pJ _ _)=_;rw[kD]
 ·cases hb;cases hu;cases hv;rfl
 ·obtain ⟨hk,hb⟩:=av hb;cases hb;cases hu;cases hv;show sel (bV _ _) (some (r7 _ _)) none=_;rw[hk,lV]
 ·cases hb
theorem Oj {k:AV} {u:SV} {d:UD} (hu:VA F g u k) (hd:JR k d=true):sM u d=true:=by
 cases k<;>first|(cases hd;done)|skip
 ·cases hu;exact hd
 ·cases hu;exact (show (true&&Qp _ d)=true by rw[Bool.true_and];exact hd)
 ·cases hu;exact hd
theorem DO {k:AV} {u:SV} (hu:VA F g u k):∀{es:List (AV×AV)} {ms:List (SV×SV×Nat)} (j:Nat),VAs F .no (ms.map (·.1)) (es.map (·.1))→VAs F .no (ms.map (·.2.1)) (es.map (·.2))→
  (iv k es=some none→iw u ms j=some none)∧∀i x,iv k es=some (some (i,x))→∃v c,iw u ms j=some (some (j+i,v,c))∧VA F .no v x∧es[i]? =some (k,x)∧i<ms.length
 | [],[],j,_,_=>⟨fun _=>rfl,fun i x h=>by cases h⟩
 | [],m::ms,j,h,_=>by cases h
 |e::es,[],j,h,_=>by cases h
 |e::es,m::ms,j,h1,h2=>by
  cases h1 with|cons a1 t1=>
  cases h2 with|cons a2 t2=>
  obtain ⟨i1,i2⟩:=DO hu (es:=es) (ms:=ms) (Nat.add j 1) t1 t2;have step:∀b,AL k e.1=some b→sameKey u m.1=some b:=fun b hb=>YQ hu a1 hb
  constructor
  ·intro hf;unfold iv at hf;unfold iw;split at hf
   ·cases hf
   ·rename_i hk;rw[step _ hk];show iw u ms (Nat.add j 1)=_;split at hf
    ·cases hf
    ·exact i1 hf
   ·cases hf
  ·intro i x hf;unfold iv at hf;unfold iw;split at hf
   ·rename_i hk;cases hf;rw[step _ hk];refine ⟨m.2.1,m.2.2,rfl,a2,?_,by simp⟩
    have:k=e.1:=by
     unfold AL at hk;split at hk
     ·simp at hk;subst hk;symm;assumption
     ·simp at hk;subst hk;symm;assumption
     ·obtain ⟨hkk,hk⟩:=av hk;have hab:=of_decide_eq_true (Option.some.inj hk);have hkb:=PZ hkk;subst hab;subst hkb;symm;assumption
     ·cases hk
    simp[this]
   ·rename_i hk;rw[step _ hk];show ∃v c,iw u ms (Nat.add j 1)=_∧_;split at hf
    ·rename_i p hp;cases hf;obtain ⟨v,c,b1,b2,b3,b4⟩:=i2 p.1 p.2 hp;refine ⟨v,c,?_,b2,by simpa using b3,by simpa using b4⟩
     rw[b1,show Nat.add j 1+p.1=j+(p.1+1) from by show j+1+p.1=_;omega]
    ·rename_i hne;exact absurd hf (hne _)
   ·cases hf
def JH (E:Env) (t:TypeId):Option (TI×TI):=ai (E.ty.get t) fun i=>ai (pZ i.desc) fun q=>aF (E.ty.get q.1) (E.ty.get q.2) fun a b=>some (a,b)
theorem EG {t:TypeId} {p:TI×TI} (h:JH E t=some p):∃i q,E.ty.get t=some i∧pZ i.desc=some q∧E.ty.get q.1=some p.1∧E.ty.get q.2=some p.2:=by
 obtain ⟨i,hi,h⟩:=af h;obtain ⟨q,hq,h⟩:=af h;obtain ⟨a,b,h1,h2,h⟩:=ay h;cases h;exact ⟨i,q,hi,hq,h1,h2⟩
def okM (ok:Bool) (v:AV) (b:Bool):AV:=sel ok (.tup [v,.bool b]) v
theorem Jz {ok b:Bool} {v:SV} {x:AV} (h:VA F g v x):VA F g (okV ok v b) (okM ok x b):=by
 cases ok
 ·exact h
 ·exact .tup (.cons h (.cons (.bool b) .nil))
def vQ (ok:Bool) (z:Option AV):Option (Nat×AV)→Option AV
 |some r=>some (okM ok r.2 true)
 |none=>ai z fun z=>some (okM ok z false)
theorem Wp {t:TypeId} {a c:Operand} {ok:Bool} {p:TI×TI} {K:Nat} {es:List (AV×AV)} {k x:AV} {f:Option (Nat×AV)} (hp:JH E t=some p) (ha:aJ s.ts a= .mp K) (hc:aJ s.ts c=k) (hk:JR k p.1.desc=true) (hb:lk K s.bs=some (.map es)) (hf:iv k es=some f) (hx:vQ ok (gy p.2 (eg p.2.zero) 0) f=some x) (hkx:(bW x).isEmpty=true):aP E B (.lookup t a c ok) s s x none:=aP.bi (f:=fun hp a b=>same (jW E hp t a b ok)) (fun _ _ _=>rfl) ha (by simp) hc (fun e=>by subst e;cases hk) fun {F g φ tm h v w} r hv hw=>by
 obtain ⟨i,q,hi,hq,h1,h2⟩:=EG hp;cases hv;have q0:=r.bx K _ hb;generalize φ K=fp at q0;cases q0 with
 | @map _ ms cl hh hks hvs=>
 obtain ⟨m1,m2⟩:=DO hw 0 hks hvs;have key:∃r,iw w ms 0=some r∧∃u,vP ok (cO p.2 p.2.zero 0) r=some u∧VA F g u x:=by
  cases f with
  |none=>
   obtain ⟨z,hz,hx⟩:=af hx;cases hx;obtain ⟨u,u1,u2⟩:=jU (jw (F:=F) (g:=.no) p.2.zero) hz;exact ⟨none,m1 hf,okV ok u false,by show ai (cO p.2 p.2.zero 0) (fun z=>some (okV ok z false))=_;rw[u1];rfl,(Jz u2).gf hkx⟩
  |some r=>
   cases hx;obtain ⟨v,c,b1,b2,_,_⟩:=m2 r.1 r.2 hf;exact ⟨_,b1,okV ok v true,rfl,(Jz b2).gf hkx⟩
 obtain ⟨r',k1,u,u1,u2⟩:=key;refine ⟨u,?_,u2⟩;show same (jW E h.hp.get t (.mp (g.ρ K)) w ok)=_;unfold jW;rw[cW hi,cW hq,m7 h1 h2,Oj hw hk];show same (ai (ai (ji (h.hp.get (g.ρ K))) fun p=>some p.1) fun es=>ai (iw w es 0) fun r=>vP ok (cO p.2 p.2.zero 0) r)=_
 rw[hh];show same (ai (iw w ms 0) fun r=>vP ok (cO p.2 p.2.zero 0) r)=_
 rw[k1];show same (vP ok (cO p.2 p.2.zero 0) r')=_;rw[u1];rfl
def Cz (es:List (AV×AV)) (k v:AV):Option (Nat×AV)→List (AV×AV)
 |some r=>es.set r.1 (k,v)
 |none=>es++ [(k,v)]
theorem VAs.set:∀{vs xs} {i:Nat} {v:SV} {x:AV},VAs F g vs xs→VA F g v x→VAs F g (vs.set i v) (xs.set i x)
 |_,_,_,_,_,.nil,_=>.nil
 |_,_,0,_,_,.cons _ t,k=>.cons k t
 |_,_,i+1,_,_,.cons h t,k=>.cons h (t.set k)
theorem Wm {op:Op} {t:TypeId} {a c d:Operand} {p:TI×TI} {K:Nat} {es:List (AV×AV)} {k x:AV} {f:Option (Nat×AV)} (hop:∀tm hp new,opA E op tm hp new=two tm a c fun a b=>one tm d fun c=>unit (lA E hp t a b c)) (hp:JH E t=some p) (ha:aJ s.ts a= .mp K) (hc:aJ s.ts c=k) (hk:JR k p.1.desc=true) (hd:aJ s.ts d=x) (hx:x≠ .undef) (hkx:(bW x).isEmpty=true) (hb:lk K s.bs=some (.map es)) (hf:iv k es=some f):
  aP E B op s (s.set K (.map (Cz es k x f))) (.tup []) (some (K,false)):=aP.wr hb fun {F g φ tm h new} r=>by
 obtain ⟨i,q,hi,hq,h1,h2⟩:=EG hp;obtain ⟨v,v1,v2⟩:=r.val ha (by simp)
 obtain ⟨w,w1,w2⟩:=r.val hc (fun e=>by subst e;cases hk)
 obtain ⟨u,u1,u2⟩:=r.val hd hx;cases v2;have hkk:(bW k).isEmpty=true:=by cases k<;>first|(cases hk;done)|rfl
 have q0:=r.bx K _ hb;generalize φ K=fp at q0 ⊢;cases q0 with
 | @map _ ms cl hh hks hvs=>
 obtain ⟨m1,m2⟩:=DO w2 0 hks hvs;have key:∃r,iw w ms 0=some r∧∃ms' cl',CA ms cl w u r= .map ms' cl'∧VAs F .no (ms'.map (·.1)) ((Cz es k x f).map (·.1))∧VAs F .no (ms'.map (·.2.1)) ((Cz es k x f).map (·.2)):=by
  cases f with
  |none=>
   refine ⟨none,m1 hf,ms++ [(w,u,cl)],Nat.add cl 1,rfl,?_,?_⟩
   ·show VAs F .no ((ms++ [(w,u,cl)]).map (·.1)) ((es++ [(k,x)]).map (·.1))
    rw[List.map_append,List.map_append];exact hks.append (.cons (w2.gf hkk) .nil)
   ·show VAs F .no ((ms++ [(w,u,cl)]).map (·.2.1)) ((es++ [(k,x)]).map (·.2))
    rw[List.map_append,List.map_append];exact hvs.append (.cons (u2.gf hkx) .nil)
  |some r=>
   obtain ⟨v,c,b1,b2,b3,b4⟩:=m2 r.1 r.2 hf;refine ⟨_,b1,ms.set (0+r.1) (w,u,c),cl,rfl,?_,?_⟩
   ·show VAs F .no ((ms.set (0+r.1) (w,u,c)).map (·.1)) ((es.set r.1 (k,x)).map (·.1))
    rw[List.map_set,List.map_set,Nat.zero_add];exact hks.set (w2.gf hkk)
   ·show VAs F .no ((ms.set (0+r.1) (w,u,c)).map (·.2.1)) ((es.set r.1 (k,x)).map (·.2))
    rw[List.map_set,List.map_set,Nat.zero_add];exact hvs.set (u2.gf hkx)
 obtain ⟨r',k1,ms',cl',k2,k3,k4⟩:=key;refine ⟨.tup [],.map ms' cl',?_,.tup .nil,rfl,fun hp' hh'=>.map hh' k3 k4⟩
 rw[hop];unfold two one;rw[v1,w1];show ai (aI tm d) (fun c=>unit (lA E h.hp.get t (.mp (g.ρ K)) w c))=_
 rw[u1];show unit (lA E h.hp.get t (.mp (g.ρ K)) w u)=_;have e1:lA E h.hp.get t (.mp (g.ρ K)) w u=some [(g.ρ K,some (.map ms' cl'))]:=by
  show ai (E.ty.get t) (fun i=>ai (pZ i.desc) fun q=>aF (E.ty.get q.1) (ji (h.hp.get (g.ρ K))) fun ik p=>sel (sM w ik.desc) (ai (iw w p.1 0) fun r=>some [(g.ρ K,some (CA p.1 p.2 w u r))]) none)=_
  rw[cW hi,cW hq,hh];show aF (E.ty.get q.1) (some (ms,cl)) (fun ik p=>sel (sM w ik.desc) (ai (iw w p.1 0) fun r=>some [(g.ρ K,some (CA p.1 p.2 w u r))]) none)=_
  rw[m7 h1 rfl,Oj w2 hk];show ai (iw w ms 0) (fun r=>some [(g.ρ K,some (CA ms cl w u r))])=_
  rw[k1];show some [(g.ρ K,some (CA ms cl w u r'))]=_;rw[k2]
 rw[e1];rfl
end
section
variable {F F':Hf} {g g':Gb} {B:Bs} {φ:Nat→List Nat} {s s' s1:LS} {tm:Tf} {h:Hs} {hp:Hf} {E:Env} {nt:Nat} {all l:List Oper}
def KC (F:Hf) (g:Gb) (φ:Nat→List Nat) (bs:List (Nat×Bx)) (h:Hs):Bs:=⟨h.hp.get,F,g,h.nx,fun k=>(lk k bs).isSome,φ⟩
def Ent (F:Hf) (g:Gb) (φ:Nat→List Nat) (bs:List (Nat×Bx)) (h:Hs):Prop:=Rel (KC F g φ bs h) F g φ ⟨[],bs⟩ (fun _=>none) ⟨h.hp,h.nx,[]⟩
structure bC (E:Env) (f:Nat) (bs:List (Nat×Bx)) (xs:List AV) (y:AV) (bs':List (Nat×Bx)):Prop where
 go:∀{F:Hf} {g:Gb} {φ:Nat→List Nat} {h:Hs} {aa:List SV},Ent F g φ bs h→VAs F g aa xs→∃(F':Hf) (g':Gb) (φ':Nat→List Nat) (h1:Hs) (v:SV),bz E (.call (.fn (.func f) [] []) aa h) (.bN [⟨false,v,⟨h1.hp,h1.nx,below h.nx h1.lg h.lg⟩⟩])∧VA F' g' v y∧Rel (KC F g φ bs h) F' g' φ' ⟨[],bs'⟩ (fun _=>none) h1
abbrev bw:=List (Nat×Nat)
def j8 (al:bw):bw:=al.map fun q=>(q.2,q.1)
def fiP (al:bw) (K:Nat):Nat:= @Option.rec Nat (fun _=>Nat) K (fun k=>k) (lk K al)
def foP (al:bw) (k:Nat):Nat:=fiP (j8 al) k
def Kj (l:bw) (K:Nat):Bool:= @Option.rec Nat (fun _=>Bool) false (fun _=>true) (lk K l)
def eT (l:bw) (ks:List Nat):Bool:=ks.all (Kj l)
def oT (al:bw):Bool:=al.all fun q=>Nat.beq (fiP al q.1) q.2&&(Kj al q.1&&(Nat.beq (foP al q.2) q.1&&Kj (j8 al) q.2))
def oI (bs:List (Nat×Bx)) (al:bw):bw→Option (List (Nat×Bx))
 | []=>some []
 |q::l=>aF (lk q.1 bs) (oI bs al l) fun b r=>some ((q.2,b.ren (fiP al))::r)
def tD (bs':List (Nat×Bx)) (al:bw):bw→Option (List (Nat×Bx))
 | []=>some []
 |q::l=>aF (lk q.2 bs') (tD bs' al l) fun b r=>some ((q.1,b.ren (foP al))::r)
def oO (bs:List (Nat×Bx)) (ps:bw):bw→Bool
 | []=>true
 |q::l=>(match lk q.1 bs with|some b=>eT ps b.keys|none=>false)&&oO bs ps l
def oM (bs':List (Nat×Bx)) (al:bw):bw→Bool
 | []=>true
 |q::l=>(match lk q.2 bs' with|some b=>eT (j8 al) b.keys|none=>false)&&oM bs' al l
theorem qe {l:bw} {K:Nat} (h:Kj l K=true):∃k,lk K l=some k:=by
 unfold Kj at h;cases hl:lk K l with
 |none=>rw[hl] at h;cases h
 |some k=>exact ⟨k,rfl⟩
theorem nW {l:bw} {K k:Nat} (h:lk K l=some k):fiP l K=k:=by unfold fiP;rw[h]
theorem adX {al:bw} {K k:Nat} (hg:oT al=true) (h:lk K al=some k):lk k (j8 al)=some K:=by
 have:=(List.all_eq_true.1 hg) (K,k) (nP h);rw[Bool.and_eq_true,Bool.and_eq_true,Bool.and_eq_true] at this;obtain ⟨_,_,h3,h4⟩:=this;obtain ⟨j,hj⟩:=qe h4;have:foP al k=j:=nW hj;rw[hj,←this];exact congrArg some ((beq_iff _ _).1 h3)
theorem Wy {al:bw} {K k:Nat} (hg:oT al=true) (h:lk k (j8 al)=some K):lk K al=some k:=by
 obtain ⟨q,hq,he⟩:=List.mem_map.1 (nP h);have:=(List.all_eq_true.1 hg) q hq;rw[Bool.and_eq_true,Bool.and_eq_true,Bool.and_eq_true] at this;obtain ⟨h1,h2,_,_⟩:=this;cases he;obtain ⟨j,hj⟩:=qe h2;have:fiP al q.1=j:=nW hj;rw[hj,←this];exact congrArg some ((beq_iff _ _).1 h1)
theorem vy {α:Type} (t:Nat) (b:List (Nat×α)):∀a:List (Nat×α),lk t (a++b)=(lk t a).or (lk t b)
 | []=>rfl
 |(k,x)::a=>by
  rw[List.cons_append,br,br];split
  ·rfl
  ·exact vy t b a
theorem NK {bs:List (Nat×Bx)} {al:bw}:∀{l:bw} {r:List (Nat×Bx)} {k:Nat} {b':Bx},oI bs al l=some r→lk k r=some b'→∃K b,(K,k)∈l∧lk K bs=some b∧b'=b.ren (fiP al)
 | [],r,k,b',h,hk=>by cases h;cases hk
 |q::l,r,k,b',h,hk=>by
  obtain ⟨b,r',h1,h2,h3⟩:=ay h;cases h3;rw[br] at hk;split at hk
  ·rename_i e;cases hk;exact ⟨q.1,b,by rw[e];exact List.mem_cons_self,h1,rfl⟩
  ·obtain ⟨K,b0,m1,m2,m3⟩:=NK h2 hk;exact ⟨K,b0,List.mem_cons_of_mem _ m1,m2,m3⟩
theorem Ji {bs:List (Nat×Bx)} {al:bw}:∀{l:bw} {r:List (Nat×Bx)} {K k:Nat},oI bs al l=some r→(K,k)∈l→∃b,lk k r=some b
 | [],r,K,k,h,hk=>by cases hk
 |q::l,r,K,k,h,hk=>by
  obtain ⟨b,r',h1,h2,h3⟩:=ay h;cases h3;rw[br];split
  ·exact ⟨_,rfl⟩
  ·rename_i e;rcases List.mem_cons.1 hk with rfl|hk
   ·exact absurd rfl e
   ·exact Ji h2 hk
theorem Wg {bs':List (Nat×Bx)} {al:bw}:∀{l:bw} {r:List (Nat×Bx)} {K:Nat} {b':Bx},tD bs' al l=some r→lk K r=some b'→∃k b,(K,k)∈l∧lk k bs'=some b∧b'=b.ren (foP al)
 | [],r,K,b',h,hk=>by cases h;cases hk
 |q::l,r,K,b',h,hk=>by
  obtain ⟨b,r',h1,h2,h3⟩:=ay h;cases h3;rw[br] at hk;split at hk
  ·rename_i e;cases hk;exact ⟨q.2,b,by rw[e];exact List.mem_cons_self,h1,rfl⟩
  ·obtain ⟨k,b0,m1,m2,m3⟩:=Wg h2 hk;exact ⟨k,b0,List.mem_cons_of_mem _ m1,m2,m3⟩
theorem Jk {bs':List (Nat×Bx)} {al:bw}:∀{l:bw} {r:List (Nat×Bx)} {K:Nat},tD bs' al l=some r→lk K r=none→lk K l=none
 | [],r,K,h,hk=>rfl
 |q::l,r,K,h,hk=>by
  obtain ⟨b,r',h1,h2,h3⟩:=ay h;cases h3;rw[br] at hk;rw[show q::l=(q.1,q.2)::l from rfl,br];split at hk
  ·cases hk
  ·rename_i e;rw[if_neg e];exact Jk h2 hk
theorem EK {bs:List (Nat×Bx)} {ps:bw}:∀{l:bw} {K k:Nat} {b:Bx},oO bs ps l=true→(K,k)∈l→lk K bs=some b→eT ps b.keys=true
 |q::l,K,k,b,h,hm,hb=>by
  have h:=Bool.and_eq_true_iff.1 (show ((match lk q.1 bs with|some b=>eT ps b.keys|none=>false)&&oO bs ps l)=true from h)
  rcases List.mem_cons.1 hm with rfl|hm
  ·have:=h.1;rw[hb] at this;exact this
  ·exact EK h.2 hm hb
theorem EJ {bs':List (Nat×Bx)} {al:bw}:∀{l:bw} {K k:Nat} {b:Bx},oM bs' al l=true→(K,k)∈l→lk k bs'=some b→eT (j8 al) b.keys=true
 |q::l,K,k,b,h,hm,hb=>by
  have h:=Bool.and_eq_true_iff.1 (show ((match lk q.2 bs' with|some b=>eT (j8 al) b.keys|none=>false)&&oM bs' al l)=true from h)
  rcases List.mem_cons.1 hm with rfl|hm
  ·have:=h.1;rw[hb] at this;exact this
  ·exact EJ h.2 hm hb
theorem fq {al:bw} (hg:oT al=true) {K k:Nat} (h:(K,k)∈al):lk K al=some k:=by
 have:=(List.all_eq_true.1 hg) (K,k) h;rw[Bool.and_eq_true,Bool.and_eq_true,Bool.and_eq_true] at this;obtain ⟨h1,h2,_,_⟩:=this;obtain ⟨j,hj⟩:=qe h2;have:fiP al K=j:=nW hj;rw[hj,←this];exact congrArg some ((beq_iff _ _).1 h1)
theorem Rel.call (r : Rel B F g φ s tm h) {ps rs : bw} {bs bs' ob : List (Nat × Bx)} {xs : List AV} {y : AV} {aa : List SV} {f : Nat} {hh : Hs} {Hd : Nat → Prop} (hh0 : ∀ x, ¬ Hd x → hh.hp.get x = h.hp.get x) (hh1 : ∀ x, Hd x → hh.hp.get x = none ∧ F x = none ∧ x < h.nx ∧ ∀ K k b, (K, k) ∈ ps → lk K s.bs = some b → x ∉ φ K) (hhx : hh.nx = h.nx) (hg : oT (ps ++ rs) = true) (hps : oI s.bs (ps ++ rs) ps = some bs) (hkb : oO s.bs ps ps = true) (hkx : eT ps (cI xs) = true) (has : VAs F g aa xs)
    (hrs : ∀ q ∈ rs, s.free q.1 ∧ B.pk q.1 = false ∧ lk q.1 s.bs = none) (hc : bC E f bs (ir (fiP (ps ++ rs)) xs) y bs') (hob : tD bs' (ps ++ rs) (ps ++ rs) = some ob) (hko : oM bs' (ps ++ rs) (ps ++ rs) = true) (hky : eT (j8 (ps ++ rs)) (bW y) = true) :
    ∃ (F' : Hf) (g' : Gb) (φ' : Nat → List Nat) (h1 : Hs) (v : SV), bz E (.call (.fn (.func f) [] []) aa hh) (.bN [⟨false, v, ⟨h1.hp, h1.nx, below hh.nx h1.lg hh.lg⟩⟩]) ∧ VA F' g' v (kP (foP (ps ++ rs)) y) ∧
      (∀ h', (∀ x, ¬ Hd x → h'.hp.get x = h1.hp.get x) → (∀ x, Hd x → h'.hp.get x = h.hp.get x) → h'.nx = h1.nx → (∀ x ∈ h'.lg, x ∈ h.lg ∨ (x ∈ h1.lg ∧ x < h.nx)) → Rel B F' g' φ' ⟨s.ts, ob ++ s.bs⟩ tm h') ∧
      Hle F F' ∧ (∀ id o, F' id = some o → F id = some o ∨ h.nx ≤ id) ∧ h.nx ≤ h1.nx ∧ (∀ x ∈ h1.lg, x < h.nx → ∃ K k b, (K, k) ∈ ps ∧ lk K s.bs = some b ∧ x ∈ φ K) ∧
      (∀ k b, lk k (ob ++ s.bs) = some b → ∀ i ∈ φ' k, (i < h.nx ∧ ∃ b, lk k s.bs = some b ∧ i ∈ φ k) ∨ h.nx ≤ i) ∧ (∀ ks : List Nat, (∀ q ∈ rs, q.1 ∉ ks) → iz g g' ks) ∧ (∀ K, lk K (ps ++ rs) = none → φ' K = φ K) ∧
      ∀ x, x < h.nx → (∀ K k b, (K, k) ∈ ps → lk K s.bs = some b → x ∉ φ K) → h1.hp.get x = hh.hp.get x := by
  generalize hal : ps ++ rs = al at *
  have qd : ∀ {q}, q ∈ ps → q ∈ al := fun hq => by rw [← hal]; exact List.mem_append_left _ hq
  have afH : ∀ {q}, q ∈ rs → q ∈ al := fun hq => by rw [← hal]; exact List.mem_append_right _ hq
  let gc : Gb := ⟨fun k => g.ρ (foP al k), fun k => g.κ (foP al k), fun k => g.β (foP al k)⟩
  let φc : Nat → List Nat := fun k => φ (foP al k)
  have aE : ∀ {K k}, lk K al = some k → foP al k = K := fun hK => nW (adX hg hK)
  have hin : ∀ ks, eT ps ks = true → kA g gc (fiP al) ks := fun ks hk k hks => by
    obtain ⟨j, hj⟩ := qe ((List.all_eq_true.1 hk) k hks)
    have hj' := fq hg (qd (nP hj))
    rw [nW hj']
    have := aE hj'
    exact ⟨congrArg g.ρ this, congrArg g.κ this, congrArg g.β this⟩
  have hbl : ∀ {k b'}, lk k bs = some b' → ∃ K b, (K, k) ∈ ps ∧ lk K s.bs = some b ∧ b' = b.ren (fiP al) ∧ foP al k = K := fun hk => by
    obtain ⟨K, b, m1, m2, m3⟩ := NK hps hk
    exact ⟨K, b, m1, m2, m3, aE (fq hg (qd m1))⟩
  have A0 : ∀ {K k b}, (K, k) ∈ ps → lk K s.bs = some b → ∀ i ∈ φ K, hh.hp.get i = h.hp.get i := fun m1 m2 i hi => hh0 i fun e => (hh1 i e).2.2.2 _ _ _ m1 m2 hi
  have ent : Ent F gc φc bs hh := by
    refine ⟨fun t x hx => (by cases hx), fun k b' hk => ?_, fun k k' b1 b2 hk hk' hne i hi => ?_, fun k b' hk i hi => ?_, fun i o ho => ?_, fun x hx => ?_, Nat.le_refl _, fun x _ _ => rfl, Hle.refl F, fun _ _ ho => .inl ho, fun k b' hk i hi => .inl ⟨by show (lk k bs).isSome = true; rw [hk]; rfl, hi⟩, fun x hx => (by cases hx), fun k _ j hj => ⟨rfl, rfl, rfl⟩⟩
    · obtain ⟨K, b, m1, m2, rfl, m4⟩ := hbl hk
      have hK := fq hg (qd m1)
      have q := ((r.bx K b m2).jE (h' := hh.hp.get) (Hle.refl F) fun i hi => A0 m1 m2 i hi).ren (g' := gc) (f := fiP al) (fun j hj => by rw [List.mem_singleton.1 hj, nW hK]; exact ⟨congrArg g.ρ m4, congrArg g.κ m4, congrArg g.β m4⟩) (hin _ (EK hkb m1 m2))
      rw [nW hK] at q
      show du F gc hh.hp.get k _ (φ (foP al k))
      rw [m4]; exact q
    · obtain ⟨K, b, m1, m2, _, m4⟩ := hbl hk
      obtain ⟨K', b', m1', m2', _, m4'⟩ := hbl hk'
      have hi : i ∈ φ (foP al k) := hi
      show i ∉ φ (foP al k')
      rw [m4] at hi; rw [m4']
      refine r.dj K K' b b' m2 m2' (fun e => hne ?_) i hi
      have e1 := fq hg (qd m1)
      have e2 := fq hg (qd m1')
      rw [e, e2] at e1
      exact (Option.some.inj e1).symm
    · obtain ⟨K, b, m1, m2, _, m4⟩ := hbl hk
      have hi : i ∈ φ (foP al k) := hi
      rw [m4] at hi
      exact r.nf K b m2 i hi
    · exact (hh0 i fun e => by rw [(hh1 i e).2.1] at ho; cases ho).trans (r.sub i o ho)
    · have hx : h.nx ≤ x := by rw [← hhx]; exact hx
      exact (hh0 x fun e => by have := (hh1 x e).2.2.1; omega).trans (r.bd x hx)
  obtain ⟨F', g', φ', h1, v, go, hv, r1⟩ := hc.go ent (has.ren (hin _ hkx))
  let rw' : bw := rs
  let g2 : Gb := ⟨fun K => @Option.rec Nat (fun _ => Nat) (g.ρ K) (fun k => g'.ρ k) (lk K al), fun K => @Option.rec Nat (fun _ => Cp) (g.κ K) (fun k => g'.κ k) (lk K al), fun K => @Option.rec Nat (fun _ => Bool) (g.β K) (fun k => g'.β k) (lk K al)⟩
  let φ2 : Nat → List Nat := fun K => @Option.rec Nat (fun _ => List Nat) (φ K) (fun k => φ' k) (lk K al)
  have Zu : ∀ {K k}, lk K al = some k → g2.ρ K = g'.ρ k ∧ g2.κ K = g'.κ k ∧ g2.β K = g'.β k := fun {K k} hK => by
    show @Option.rec Nat (fun _ => Nat) (g.ρ K) (fun k => g'.ρ k) (lk K al) = _ ∧ @Option.rec Nat (fun _ => Cp) (g.κ K) (fun k => g'.κ k) (lk K al) = _ ∧ @Option.rec Nat (fun _ => Bool) (g.β K) (fun k => g'.β k) (lk K al) = _
    rw [hK]; exact ⟨rfl, rfl, rfl⟩
  have g2no : ∀ {K}, lk K al = none → g2.ρ K = g.ρ K ∧ g2.κ K = g.κ K ∧ g2.β K = g.β K := fun {K} hK => by
    show @Option.rec Nat (fun _ => Nat) (g.ρ K) (fun k => g'.ρ k) (lk K al) = _ ∧ @Option.rec Nat (fun _ => Cp) (g.κ K) (fun k => g'.κ k) (lk K al) = _ ∧ @Option.rec Nat (fun _ => Bool) (g.β K) (fun k => g'.β k) (lk K al) = _
    rw [hK]; exact ⟨rfl, rfl, rfl⟩
  have qJ : ∀ {K k}, lk K al = some k → φ2 K = φ' k := fun {K k} hK => by
    show @Option.rec Nat (fun _ => List Nat) (φ K) (fun k => φ' k) (lk K al) = _
    rw [hK]
  have oA : ∀ {K}, lk K al = none → φ2 K = φ K := fun {K} hK => by
    show @Option.rec Nat (fun _ => List Nat) (φ K) (fun k => φ' k) (lk K al) = _
    rw [hK]
  have hpkB : ∀ {K k}, (K, k) ∈ ps → (lk k bs).isSome = true := fun hq => by
    obtain ⟨b, hb⟩ := Ji hps hq
    rw [hb]; rfl
  have g2ps : ∀ {K k}, (K, k) ∈ ps → g2.ρ K = g.ρ K ∧ g2.κ K = g.κ K ∧ g2.β K = g.β K := fun {K k} hq => by
    have hK := fq hg (qd hq)
    obtain ⟨a1, a2, a3⟩ := Zu hK
    obtain ⟨c1, c2, c3⟩ := r1.pin k (hpkB hq) k (by simp)
    have hb := aE hK
    exact ⟨a1.trans (c1.trans (congrArg g.ρ hb)), a2.trans (c2.trans (congrArg g.κ hb)), a3.trans (c3.trans (congrArg g.β hb))⟩
  have hgs : ∀ ks : List Nat, (∀ q ∈ rs, q.1 ∉ ks) → iz g g2 ks := fun ks hk K hK => by
    cases hl : lk K al with
    | none => exact g2no hl
    | some k =>
      have hm := nP hl
      rw [← hal] at hm
      rcases List.mem_append.1 hm with hm | hm
      · exact g2ps hm
      · exact absurd hK (hk _ hm)
  have QB : ∀ ks, eT (j8 al) ks = true → kA g' g2 (foP al) ks := fun ks hk k hks => by
    obtain ⟨K, hK⟩ := qe ((List.all_eq_true.1 hk) k hks)
    have e : foP al k = K := nW hK
    rw [e]
    exact Zu (Wy hg hK)
  have lkb : ∀ {K b}, lk K (ob ++ s.bs) = some b → (∃ k b0, (K, k) ∈ al ∧ lk k bs' = some b0 ∧ b = b0.ren (foP al)) ∨ (lk K al = none ∧ lk K s.bs = some b) := fun {K b} hK => by
    rw [vy] at hK
    cases ho : lk K ob with
    | none => rw [ho] at hK; exact .inr ⟨Jk hob ho, hK⟩
    | some b1 =>
      rw [ho] at hK
      cases hK
      exact .inl (Wg hob ho)
  have Az : ∀ {K k b0}, (K, k) ∈ al → lk k bs' = some b0 → ∀ i ∈ φ' k, (i < h.nx ∧ (K, k) ∈ ps ∧ ∃ b, lk K s.bs = some b ∧ i ∈ φ K) ∨ h.nx ≤ i := fun {K k b0} hm hb i hi => by
    rcases r1.jD k b0 hb i hi with ⟨c1, c2⟩ | c
    · have c1 : (lk k bs).isSome = true := c1
      obtain ⟨b', hb'⟩ := Option.isSome_iff_exists.1 c1
      obtain ⟨K', b, m1, m2, _, m4⟩ := hbl hb'
      have hKK : K' = K := by rw [← m4]; exact aE (fq hg hm)
      subst hKK
      have c2 : i ∈ φ (foP al k) := c2
      rw [m4] at c2
      exact .inl ⟨r.lt m2 i c2, m1, b, m2, c2⟩
    · exact .inr (by rw [← hhx]; exact c)
  have hold : ∀ x, x < h.nx → (∀ K k b, (K, k) ∈ ps → lk K s.bs = some b → x ∉ φ K) → h1.hp.get x = hh.hp.get x := fun x hx hno => r1.old x (show x < hh.nx by rw [hhx]; exact hx) fun k hp => by
    have c1 : (lk k bs).isSome = true := hp.1
    obtain ⟨b', hb'⟩ := Option.isSome_iff_exists.1 c1
    obtain ⟨K', b, m1, m2, _, m4⟩ := hbl hb'
    have c2 : x ∈ φ (foP al k) := hp.2
    rw [m4] at c2
    exact hno K' k b m1 m2 c2
  refine ⟨F', g2, φ2, h1, v, go, hv.ren (QB _ hky), fun h' hx0 hx1 hn' hl' => ?_, r1.f0, fun id o ho => ?_, ?_, fun x hx hlt => ?_, fun K b hK i hi => ?_, hgs, fun K hK => oA hK, hold⟩
  rotate_left
  · rcases r1.fn id o ho with c | c
    · exact .inl c
    · exact .inr (by rw [← hhx]; exact c)
  · have : hh.nx ≤ h1.nx := r1.nx
    omega
  · rcases r1.lg x hx with ⟨k, c1, c2⟩ | c
    · have c1 : (lk k bs).isSome = true := c1
      obtain ⟨b', hb'⟩ := Option.isSome_iff_exists.1 c1
      obtain ⟨K', b, m1, m2, _, m4⟩ := hbl hb'
      have c2 : x ∈ φ (foP al k) := c2
      rw [m4] at c2
      exact ⟨K', k, b, m1, m2, c2⟩
    · have c : hh.nx ≤ x := c
      omega
  · rcases lkb hK with ⟨k, b0, m1, m2, _⟩ | ⟨m1, m2⟩
    · rw [qJ (fq hg m1)] at hi
      rcases Az m1 m2 i hi with ⟨c1, _, c2⟩ | c
      · exact .inl ⟨c1, c2⟩
      · exact .inr c
    · rw [oA m1] at hi
      exact .inl ⟨r.lt m2 i hi, b, m2, hi⟩
  have nx1 : h.nx ≤ h1.nx := by have : hh.nx ≤ h1.nx := r1.nx; omega
  have hpk : ∀ {K k b0}, (K, k) ∈ al → lk k bs' = some b0 → ∀ i ∈ φ' k, h'.hp.get i = h1.hp.get i := fun hm hb i hi => hx0 i fun e => by
    rcases Az hm hb i hi with ⟨_, m1, b, m2, m3⟩ | c
    · exact (hh1 i e).2.2.2 _ _ _ m1 m2 m3
    · have := (hh1 i e).2.2.1; omega
  have acF : ∀ x, x < h.nx → (∀ K k b, (K, k) ∈ ps → lk K s.bs = some b → x ∉ φ K) → h'.hp.get x = h.hp.get x := fun x hx hno => by
    by_cases e : Hd x
    · exact hx1 x e
    · rw [hx0 x e, hold x hx hno, hh0 x e]
  have Zi : ∀ {K}, lk K al = none → ∀ {b}, lk K s.bs = some b → ∀ i ∈ φ K, ∀ K' k' b', (K', k') ∈ ps → lk K' s.bs = some b' → i ∉ φ K' := fun {K} hK {b} hb i hi K' k' b' hp hb' => r.dj K K' b b' hb hb' (fun e => by
    have := fq hg (qd hp)
    rw [← e, hK] at this; cases this) i hi
  have hF0 : ∀ {i}, i < h.nx → F i = none → F' i = none := fun {i} hlt hf => by
    cases hF' : F' i with
    | none => rfl
    | some o => rcases r1.fn i o hF' with c | c
                · have c : F i = some o := c; rw [hf] at c; cases c
                · have c : hh.nx ≤ i := c; omega
  refine ⟨fun t x hx hn => ?_, fun K b hK => ?_, fun K K' b b2 hK hK' hne i hi => ?_, fun K b hK i hi => ?_, fun i o ho => ?_, fun x hx => ?_, ?_, fun x hx hp => ?_, r.f0.trans r1.f0, fun id o ho => ?_, fun K b hK i hi => ?_, fun x hx => ?_, fun K hK => ?_⟩
  · obtain ⟨v, v1, v2⟩ := r.tm t x hx hn
    exact ⟨v, v1, (v2.mono r1.f0).gb (hgs _ fun q hq => (hrs q hq).1.1 t x hx)⟩
  · rcases lkb hK with ⟨k, b0, m1, m2, rfl⟩ | ⟨m1, m2⟩
    · have hKl := fq hg m1
      rw [qJ hKl]
      have q := ((r1.bx k b0 m2).jE (h' := h'.hp.get) (Hle.refl F') fun i hi => hpk m1 m2 i hi).ren (g' := g2) (f := foP al) (fun j hj => by rw [List.mem_singleton.1 hj, aE hKl]; exact Zu hKl) (QB _ (EJ hko m1 m2))
      rwa [aE hKl] at q
    · rw [oA m1]
      have q := ((r.bx K b m2).jE (h' := h'.hp.get) r1.f0 fun i hi => acF i (r.lt m2 i hi) (Zi m1 m2 i hi))
      exact q.gb (fun j hj => by rw [List.mem_singleton.1 hj]; exact g2no m1) (hgs _ fun q hq => fun hc => (hrs q hq).1.2 K b (fun e => by have := fq hg (afH (show (q.1, q.2) ∈ rs from hq)); rw [← e, m1] at this; cases this) m2 hc)
  · rcases lkb hK with ⟨k, b0, m1, m2, _⟩ | ⟨m1, m2⟩ <;> rcases lkb hK' with ⟨k', b0', m1', m2', _⟩ | ⟨m1', m2'⟩
    · rw [qJ (fq hg m1)] at hi
      rw [qJ (fq hg m1')]
      refine r1.dj k k' b0 b0' m2 m2' (fun e => hne ?_) i hi
      have e1 := aE (fq hg m1)
      have e2 := aE (fq hg m1')
      rw [← e1, ← e2, e]
    · rw [qJ (fq hg m1)] at hi
      rw [oA m1']
      intro hc
      rcases Az m1 m2 i hi with ⟨_, c1, b3, c2, c3⟩ | c
      · exact Zi m1' m2' i hc K k b3 c1 c2 c3
      · have := r.lt m2' i hc; omega
    · rw [oA m1] at hi
      rw [qJ (fq hg m1')]
      intro hc
      rcases Az m1' m2' i hc with ⟨_, c1, b3, c2, c3⟩ | c
      · exact Zi m1 m2 i hi K' k' b3 c1 c2 c3
      · have := r.lt m2 i hi; omega
    · rw [oA m1] at hi
      rw [oA m1']
      exact r.dj K K' b b2 m2 m2' hne i hi
  · rcases lkb hK with ⟨k, b0, m1, m2, _⟩ | ⟨m1, m2⟩
    · rw [qJ (fq hg m1)] at hi; exact r1.nf k b0 m2 i hi
    · rw [oA m1] at hi; exact hF0 (r.lt m2 i hi) (r.nf K b m2 i hi)
  · refine (hx0 i fun e => ?_).trans (r1.sub i o ho)
    obtain ⟨_, e1, e2, _⟩ := hh1 i e
    rw [hF0 e2 e1] at ho; cases ho
  · rw [hn'] at hx
    exact (hx0 x fun e => by have := (hh1 x e).2.2.1; omega).trans (r1.bd x hx)
  · rw [hn']; exact Nat.le_trans r.nx nx1
  · have hlt : x < h.nx := Nat.lt_of_lt_of_le hx r.nx
    rw [acF x hlt fun K k b m1 m2 hc => ?_]
    · exact r.old x hx hp
    · rcases r.jD K b m2 x hc with c | c
      · exact hp K c
      · omega
  · rcases r1.fn id o ho with c | c
    · exact r.fn id o c
    · have c : hh.nx ≤ id := c
      have := r.nx
      exact .inr (by omega)
  · rcases lkb hK with ⟨k, b0, m1, m2, _⟩ | ⟨m1, m2⟩
    · rw [qJ (fq hg m1)] at hi
      rcases Az m1 m2 i hi with ⟨_, _, b3, c2, c3⟩ | c
      · exact r.jD K b3 c2 i c3
      · have := r.nx; exact .inr (by omega)
    · rw [oA m1] at hi; exact r.jD K b m2 i hi
  · rcases hl' x hx with c | ⟨c1, c2⟩
    · exact r.lg x c
    · rcases r1.lg x c1 with ⟨k, d1, d2⟩ | d
      · have d1 : (lk k bs).isSome = true := d1
        obtain ⟨b', hb'⟩ := Option.isSome_iff_exists.1 d1
        obtain ⟨K', b, m1, m2, _, m4⟩ := hbl hb'
        have d2 : x ∈ φ (foP al k) := d2
        rw [m4] at d2
        exact (r.jD K' b m2 x d2).elim (fun c => .inl ⟨K', c⟩) .inr
      · have d : hh.nx ≤ x := d
        omega
  · intro j hj
    have ej : j = K := by simpa using hj
    subst ej
    obtain ⟨c1, c2, c3⟩ := r.pin j hK j (by simp)
    obtain ⟨e1, e2, e3⟩ := hgs [j] (fun q hq hc => by
      have : q.1 = j := by simpa using Eq.symm (List.mem_singleton.1 hc) |>.symm
      have hpk' := (hrs q hq).2.1
      rw [this, hK] at hpk'; cases hpk') j (by simp)
    exact ⟨e1.trans c1, e2.trans c2, e3.trans c3⟩
end
section
variable {F F':Hf} {g g':Gb} {B:Bs} {φ:Nat→List Nat} {s s' s1:LS} {tm:Tf} {h:Hs} {hp:Hf} {E:Env} {nt:Nat} {all l:List Oper}
theorem gY.call {p:Oper} {c:Call} {o:Operand} {f:Nat} {ps rs:bw} {bs bs' ob:List (Nat×Bx)} {fi ca xs:List AV} {y:AV} (hd:bX nt p.dst=true) (hw:jy all p s.ts=some true) (hc:dx p.op=some c) (hf:c.callee= .value o) (hfv:aJ s.ts o= .fn f fi ca) (hxs:fi++fQ s.ts c.args.toList++ca=xs) (hu:eR (fQ s.ts c.args.toList)=true)
  (hg:oT (ps++rs)=true) (hps:oI s.bs (ps++rs) ps=some bs) (hkb:oO s.bs ps ps=true) (hkx:eT ps (cI xs)=true) (hrs:∀q∈rs,s.free q.1∧B.pk q.1=false∧lk q.1 s.bs=none) (hC:bC E f bs (ir (fiP (ps++rs)) xs) y bs') (hob:tD bs' (ps++rs) (ps++rs)=some ob) (hko:oM bs' (ps++rs) (ps++rs)=true) (hky:eT (j8 (ps++rs)) (bW y)=true)
  (hl:gY E nt B all l (LS.aY ⟨s.ts,ob++s.bs⟩ p.dst (kP (foP (ps++rs)) y)) s'):gY E nt B all (p::l) s s':=fun F g φ tm h r=>by
 subst hxs;obtain ⟨aa,a1,a2⟩:=r.bF hu;obtain ⟨fv,f1,f2⟩:=r.val hfv (by simp)
 obtain ⟨fs,cs,rfl,h1,h2⟩:∃fs cs,fv= .fn (.func f) fs cs∧VAs F g fs fi∧VAs F g cs ca:=by
  cases f2 with
  |fn _ h1 h2=>exact ⟨_,_,rfl,h1,h2⟩
 replace a2:=(h1.append a2).append h2;obtain ⟨F',g',φ',h1,v,go,hv,hr,_⟩:=r.call (hh:=h) (Hd:=fun _=>False) (fun _ _=>rfl) (fun _ hc=>hc.elim) rfl hg hps hkb hkx a2 hrs hC hob hko hky
 have r2:=hr ⟨h1.hp,h1.nx,below h.nx h1.lg h.lg⟩ (fun _ _=>rfl) (fun _ hc=>hc.elim) rfl (fun x hx=>by
  have hb:∀(l acc:List Nat),x∈below h.nx l acc→x∈acc∨(x∈l∧x<h.nx):=fun l=>by
   induction l with
   |nil=>exact fun acc hx=>.inl hx
   |cons y l ih=>
    intro acc hx;have hx:x∈sel (Nat.ble (Nat.succ y) h.nx) (below h.nx l (y::acc)) (below h.nx l acc):=hx;rw[aC] at hx;split at hx
    ·rename_i hlt;rcases ih _ hx with c|c
     ·rcases List.mem_cons.1 c with rfl|c
      ·exact .inr ⟨by simp,Nat.le_of_ble_eq_true hlt⟩
      ·exact .inl c
     ·exact .inr ⟨List.mem_cons_of_mem _ c.1,c.2⟩
    ·rcases ih _ hx with c|c
     ·exact .inl c
     ·exact .inr ⟨List.mem_cons_of_mem _ c.1,c.2⟩
  exact hb _ _ hx)
 obtain ⟨F2,g2,φ2,tm',h',r',q⟩:=hl F' g' φ' _ _ (r2.aY (d:=p.dst) fun _=>hv)
 exact ⟨F2,g2,φ2,tm',h',r',.adM hd (pn r hw) hc (by rw[hf];exact f1) a1 go.cf q⟩
inductive KI where
 |code (c:Code)|block (id:Nat)|loop (c:Code)
def resume (E:Env) (nt:Nat) (P:Ex→Tr SV→Hs→Prop):List KI→Ex→Tr SV→Hs→Prop
 | [],e,tm,h=>P e tm h
 | .code c::ks,e,tm,h=>(eu e=true→∃e' tm' h',bz E (.code nt c tm [] h) (.code e' tm' [] h')∧resume E nt P ks e' tm' h')∧(eu e=false→resume E nt P ks e tm h)
 | .block id::ks,e,tm,h=>resume E nt P ks (leave id e) tm h
 | .loop c::ks,e,tm,h=>(eu e=true→∃e' tm' h',bz E (.code nt (.loop c) tm [] h) (.code e' tm' [] h')∧resume E nt P ks e' tm' h')∧(eu e=false→resume E nt P ks e tm h)
def EndP (B:Bs) (Q:Ex→LS→Prop) (e:Ex) (tm:Tr SV) (h:Hs):Prop:=∃F g φ s,Rel B F g φ s tm.get h∧Q e s
def Wk (E:Env) (nt:Nat) (B:Bs) (c:Code) (ks:List KI) (s:LS) (Q:Ex→LS→Prop):Prop:=
 ∀{F g φ} {tm:Tr SV} {h},Rel B F g φ s tm.get h→∃e' tm' h',bz E (.code nt c tm [] h) (.code e' tm' [] h')∧resume E nt (EndP B Q) ks e' tm' h'
def WkO (E:Env) (nt:Nat) (B:Bs) (e:Ex) (ks:List KI) (s:LS) (Q:Ex→LS→Prop):Prop:=
 ∀{F g φ} {tm:Tr SV} {h},Rel B F g φ s tm.get h→resume E nt (EndP B Q) ks e tm h
variable {Q:Ex→LS→Prop} {ks:List KI} {a b c:Code} {e:Ex}
theorem qU (h:eu e=true):e= .normal:=by cases e<;>first|rfl|(cases h;done)
theorem Wk.skip (h:WkO E nt B .normal ks s Q):Wk E nt B .skip ks s Q:=fun r=>⟨_,_,_,.skip,h r⟩
theorem Wk.exit {id:Nat} (h:WkO E nt B (.exit id) ks s Q):Wk E nt B (.exit id) ks s Q:=fun r=>⟨_,_,_,.exit,h r⟩
theorem Wk.ret (h:WkO E nt B .ret ks s Q):Wk E nt B .ret ks s Q:=fun r=>⟨_,_,_,.ret,h r⟩
theorem Wk.seq (h:Wk E nt B a (.code b::ks) s Q):Wk E nt B (.seq a b) ks s Q:=fun r=>by
 obtain ⟨e1,tm1,h1,go,re⟩:=h r;cases he:eu e1 with
 |true=>
  obtain ⟨e2,tm2,h2,go2,re2⟩:=re.1 he;rw[qU he] at go;exact ⟨e2,tm2,h2,go.seq go2,re2⟩
 |false=>exact ⟨e1,tm1,h1,.afh he go,re.2 he⟩
theorem Wk.Ro {x:Operand} (hx:aJ s.ts x= .bool true) (h:Wk E nt B a ks s Q):Wk E nt B (.cond x a b) ks s Q:=fun r=>by
 obtain ⟨v,v1,v2⟩:=r.val hx (by simp)
 cases v2;obtain ⟨e1,tm1,h1,go,re⟩:=h r;exact ⟨e1,tm1,h1,.Ro v1 go,re⟩
theorem Wk.Rp {x:Operand} (hx:aJ s.ts x= .bool false) (h:Wk E nt B b ks s Q):Wk E nt B (.cond x a b) ks s Q:=fun r=>by
 obtain ⟨v,v1,v2⟩:=r.val hx (by simp)
 cases v2;obtain ⟨e1,tm1,h1,go,re⟩:=h r;exact ⟨e1,tm1,h1,.Rp v1 go,re⟩
theorem Wk.block {id:Nat} (h:Wk E nt B c (.block id::ks) s Q):Wk E nt B (.block id c) ks s Q:=fun r=>by
 obtain ⟨e1,tm1,h1,go,re⟩:=h r;exact ⟨_,tm1,h1,.block go,re⟩
theorem Wk.loop (h:Wk E nt B c (.loop c::ks) s Q):Wk E nt B (.loop c) ks s Q:=fun r=>by
 obtain ⟨e1,tm1,h1,go,re⟩:=h r;cases he:eu e1 with
 |true=>
  obtain ⟨e2,tm2,h2,go2,re2⟩:=re.1 he;rw[qU he] at go;exact ⟨e2,tm2,h2,.loop go go2,re2⟩
 |false=>exact ⟨e1,tm1,h1,.adW he go,re.2 he⟩
theorem Wk.region {id:Nat} {ops:Array Oper} (hl:gY E nt B ops.toList ops.toList s s1) (h:WkO E nt B .normal ks s1 Q):Wk E nt B (.region id ops false) ks s Q:=fun {F g φ tm hh} r=>by
 obtain ⟨F',g',φ',tm',h',r',go⟩:=hl F g φ tm hh r;exact ⟨_,_,_,.region go,h r'⟩
theorem WkO.code (h:Wk E nt B c ks s Q):WkO E nt B .normal (.code c::ks) s Q:=fun r=>⟨fun _=>h r,fun hc=>(by cases hc)⟩
theorem WkO.acT (he:eu e=false) (h:WkO E nt B e ks s Q):WkO E nt B e (.code c::ks) s Q:=fun r=>⟨fun hc=>(by rw[he] at hc;cases hc),fun _=>h r⟩
theorem WkO.block {id:Nat} (h:WkO E nt B (leave id e) ks s Q):WkO E nt B e (.block id::ks) s Q:=fun r=>h r
theorem WkO.loop (h:Wk E nt B (.loop c) ks s Q):WkO E nt B .normal (.loop c::ks) s Q:=fun r=>⟨fun _=>h r,fun hc=>(by cases hc)⟩
theorem WkO.abH (he:eu e=false) (h:WkO E nt B e ks s Q):WkO E nt B e (.loop c::ks) s Q:=fun r=>⟨fun hc=>(by rw[he] at hc;cases hc),fun _=>h r⟩
theorem WkO.nil (h:Q e s):WkO E nt B e [] s Q:=fun {F g φ tm hh} r=>⟨F,g,φ,s,r,h⟩
theorem Wk.IT (hg:dR B s s1) (h:Wk E nt B c ks s1 Q):Wk E nt B c ks s Q:=fun r=>by
 obtain ⟨_,_,_,r1⟩:=hg.go r;exact h r1
theorem WkO.IT (hg:dR B s s1) (h:WkO E nt B e ks s1 Q):WkO E nt B e ks s Q:=fun r=>by
 obtain ⟨_,_,_,r1⟩:=hg.go r;exact h r1
def resV (E:Env) (s:LS):ResultVar→Option AV
 | .tmp t=>lk t s.ts
 | .cell t ty=>aF (lk t s.ts) (E.ty.get ty) fun a i=>FH i s.bs a
def I4 (E:Env) (s:LS):List ResultVar→Option (List AV)
 | []=>some []
 |r::rs=>aF (resV E s r) (I4 E s rs) fun v l=>some (v::l)
def Py:List AV→AV
 | [v]=>v
 |vs=>.tup vs
theorem adH (r:Rel B F g φ s tm h) {x:ResultVar} {y:AV} (hx:resV E s x=some y) (hu:y≠ .undef):∃v,Af E tm h.hp.get x=some v∧VA F g v y:=by
 cases x with
 |tmp t=>exact r.tm t y hx hu
 |cell t ty=>
  obtain ⟨a,i,h1,h2,h3⟩:=ay hx;obtain ⟨v,v1,v2⟩:=r.tm t a h1 (fun e=>by subst e;cases h3)
  obtain ⟨u,u1,u2⟩:=Oi (E:=E) (t:=ty) h2 h3 r v2;refine ⟨u,?_,u2⟩;show ai (tm t) (iJ E h.hp.get ty)=_;rw[v1];exact UC u1
theorem NH (r:Rel B F g φ s tm h):∀{l:List ResultVar} {ys:List AV},I4 E s l=some ys→eR ys=true→∃vs,gx E tm h.hp.get l=some vs∧VAs F g vs ys
 | [],_,hy,_=>by cases hy;exact ⟨[],rfl,.nil⟩
 |x::l,ys,hy,hu=>by
  obtain ⟨a,m,h1,h2,h3⟩:=ay hy;cases h3;obtain ⟨u1,u2⟩:=vu hu;obtain ⟨v,v1,v2⟩:=adH r h1 u1;obtain ⟨vs,w1,w2⟩:=NH r h2 u2;exact ⟨v::vs,by show aF _ _ _=_;rw[v1,w1];rfl,.cons v2 w2⟩
def o8:Nat→List AV→List (Nat×AV)
 |_,[]=> []
 |i,x::l=>(i,x)::o8 (i+1) l
theorem La:∀{xs:List AV} {aa:List SV},VAs F g aa xs→∀{i t:Nat} {x:AV},lk t (o8 i xs)=some x→∃v,i≤t∧t<i+aa.length∧aa[t-i]? =some v∧VA F g v x
 | [],_,_,i,t,x,h=>by cases h
 |y::l,_,.cons (vs:=vs) hv q,i,j,x,h=>by
  rw[show o8 i (y::l)=(i,y)::o8 (i+1) l from rfl,br] at h;split at h
  ·rename_i e;cases h;subst e;exact ⟨_,Nat.le_refl _,by simp,by simp,hv⟩
  ·obtain ⟨v,a1,a2,a3,a4⟩:=La q h;refine ⟨v,by omega,by rw[List.length_cons];omega,?_,a4⟩
   rw[show j-i=(j-(i+1))+1 by omega,List.getElem?_cons_succ]
   exact a3
def BOK (pks:List Nat) (B:Bs):Prop:=∀k,cc k pks=false→B.pk k=false
def qa (bs:List (Nat×Bx)):List Nat:= @List.rec (Nat×Bx) (fun _=>List Nat) [] (fun p _ ih=>p.1::ih) bs
theorem WS {bs:List (Nat×Bx)} {k:Nat} (h:cc k (qa bs)=false):lk k bs=none:=by
 induction bs with
 |nil=>rfl
 |cons p l ih=>
  have h:sel (Nat.beq k p.1) true (cc k (qa l))=false:=h;rw[aC] at h;rw[show p::l=(p.1,p.2)::l from rfl,br];split at h
  ·cases h
  ·rename_i e;rw[if_neg (fun c=>e ((beq_iff _ _).2 c))]
   exact ih h
def aac (E:Env) (fn:Func) (y:AV) (bs':List (Nat×Bx)) (e:Ex) (s:LS):Prop:=qb e=true∧(∃ys,I4 E s fn.results.toList=some ys∧eR ys=true∧y=Py ys)∧∀k b,lk k bs'=some b→lk k s.bs=some b
theorem afr {vs:List SV} {ys:List AV} (q:VAs F g vs ys):VA F g (oneOf vs) (Py ys):=by
 cases q with
 |nil=>exact .tup .nil
 |cons h t=>
  cases t with
  |nil=>exact h
  |cons h2 t2=>exact .tup (.cons h (.cons h2 t2))
theorem aeu {f:Nat} {fn:Func} {c:Code} {bs bs':List (Nat×Bx)} {xs:List AV} {y:AV} (hk:xx E f fn c) (hn:Nat.ble xs.length fn.ntmps=true)
  (hw:∀B,BOK (qa bs) B→Wk E fn.ntmps B c [] ⟨o8 0 xs,bs⟩ (aac E fn y bs')):bC E f bs xs y bs':=.mk fun {F g φ h aa} ent has=>by
 have hB:BOK (qa bs) (KC F g φ bs h):=fun k hk=>by
  show (lk k bs).isSome=false;rw[WS hk];rfl
 have r:Rel (KC F g φ bs h) F g φ ⟨o8 0 xs,bs⟩ (setArgs aa 0 .nil).get ⟨h.hp,h.nx,[]⟩:={ent with tm:=fun t x hx hne=>(La has hx).elim fun v ha=>⟨v,by rw[rT,if_pos ⟨ha.1,ha.2.1⟩];exact ha.2.2.1,ha.2.2.2⟩}
 obtain ⟨e,tm1,h1,go,F',g',φ',s',r1,he,⟨ys,y1,y2,y3⟩,hbs⟩:=hw _ hB r;obtain ⟨vs,w1,w2⟩:=NH r1 y1 y2;refine ⟨F',g',φ',h1,oneOf vs,?_,by rw[y3];exact afr w2,?_⟩
 ·have:=bz.call (E:=E) (h:=h) hk (fi:= []) (aa:=aa) (ca:= []) (vs:=vs) (by rw[List.nil_append,List.append_nil,has.length];exact hn) he (by rw[List.nil_append,List.append_nil];exact go) w1
  exact this
 ·have r2:=r1.less (s':=⟨[],bs'⟩) ⟨fun t y hy=>(by cases hy),fun k b hb=>⟨b,hbs k b hb,WB.refl b⟩⟩
  exact {r2 with tm:=fun t x hx _=>(by cases hx)}
end
section
variable {F F':Hf} {g g':Gb} {B:Bs} {φ:Nat→List Nat} {s s' s1:LS} {tm:Tf} {h:Hs} {hp:Hf} {E:Env} {nt:Nat}
def cx (W M:Nat) (o:Oper):Nat:=Nat.mod (fh W M (dt o)) (Nat.pow 2 W)
def mc (W M i m:Nat):Nat:=Nat.lor M (Nat.shiftLeft m (Nat.mul i W))
theorem bz.aeo {W base i M:Nat} {all:List Oper} {prev:List Rc} {tm:Tr SV}:bz E (.draw nt W all base i M prev [] tm h) (.st tm h):=.step ⟨0,fun _ _=>rfl⟩
theorem vX {W base i M:Nat} {all l:List Oper} {o:Oper} {prev:List Rc} {tm:Tr SV} {rec:Job→Out} (hd:(bX nt o.dst&&fX i (dt o))=true) {w:Bool} (hw:bG all o tm.get=some w):step E rec (.draw nt W all base i M prev (o::l) tm h)=sel w (doD E rec nt W all base i M (cx W M o) prev l tm h o (dx o.op)) (jC rec nt W all base i M (cx W M o) prev l tm o.dst ⟨i,false,[],[],Nat.add base i,Nat.add (Nat.add base i) 1⟩ (.tup []) h):=by
 show sel (bX nt o.dst && fX i (dt o)) (force (Nat.mod (fh W M (dt o)) (Nat.pow 2 W)) fun m=>Ft E rec nt W all base i M m prev l tm h o (bG all o tm.get)) (.fail "slot")=_
 rw[hd,force_eq,hw];rfl
theorem yT {rec:Job→Out} {W base i M m:Nat} {all l:List Oper} {prev:List Rc} {tm:Tr SV} {d:Option Nat} {rc:Rc} {v:SV} (hi:cT m rc prev=true):jC rec nt W all base i M m prev l tm d rc v h=rec (.draw nt W all base (i+1) (mc W M i m) (rc::prev) l (aY tm d v) h):=by
 show sel (cT m rc prev) (force (mc W M i m) fun M'=>rec (.draw nt W all base (Nat.add i 1) M' (rc::prev) l (aY tm d v) h)) (.fail "order")=_
 rw[hi,force_eq]
variable {W base i M:Nat} {all l:List Oper} {o:Oper} {prev:List Rc} {tmr:Tr SV} {out:Out}
theorem bz.ZQ (hd:(bX nt o.dst&&fX i (dt o))=true) (hw:bG all o tmr.get=some false) (hi:cT (cx W M o) ⟨i,false,[],[],base+i,base+i+1⟩ prev=true)
  (ha:bz E (.draw nt W all base (i+1) (mc W M i (cx W M o)) (⟨i,false,[],[],base+i,base+i+1⟩::prev) l (aY tmr o.dst (.tup [])) h) out):bz E (.draw nt W all base i M prev (o::l) tmr h) out:=by
 obtain ⟨n1,e1⟩:=ha;refine .step ⟨n1,fun n hn=> ?_⟩
 rw[vX hd hw];show jC (run E n) nt W all base i M (cx W M o) prev l tmr o.dst ⟨i,false,[],[],base+i,base+i+1⟩ (.tup []) h=_;rw[yT hi];exact e1 n hn
theorem bz.aem {v:SV} {us:List Up} (hd:(bX nt o.dst&&fX i (dt o))=true) (hw:bG all o tmr.get=some true) (hc:dx o.op=none) (hv:opA E o.op tmr.get h.hp.get (base+i)=some (v,us)) (hi:cT (cx W M o) ⟨i,false,eF o.op tmr.get,gK (base+i) us,base+i,base+i+1⟩ prev=true)
  (ha:bz E (.draw nt W all base (i+1) (mc W M i (cx W M o)) (⟨i,false,eF o.op tmr.get,gK (base+i) us,base+i,base+i+1⟩::prev) l (aY tmr o.dst v) (h.ups us)) out):bz E (.draw nt W all base i M prev (o::l) tmr h) out:=by
 obtain ⟨n1,e1⟩:=ha;refine .step ⟨n1,fun n hn=> ?_⟩
 rw[vX hd hw,hc];show OT (run E n) nt W all base i M (cx W M o) prev l tmr h o (opA E o.op tmr.get h.hp.get (base+i))=_;rw[hv];show jC (run E n) nt W all base i M (cx W M o) prev l tmr o.dst ⟨i,false,eF o.op tmr.get,gK (base+i) us,base+i,base+i+1⟩ v (h.ups us)=_;rw[yT hi];exact e1 n hn
theorem bz.ZT {c:Call} {f:SV} {aa:List SV} {v:SV} {h2:Hs} (hd:(bX nt o.dst&&fX i (dt o))=true) (hw:bG all o tmr.get=some true) (hc:dx o.op=some c) (hf:eW tmr.get c.callee=some f) (has:bF tmr.get c.args.toList=some aa)
  (hv:bz E (.call f aa ⟨fF (cx W M o) prev h.hp,h.nx,[]⟩) (.bN [⟨false,v,h2⟩])) (hi:cT (cx W M o) ⟨i,true,[],below h.nx h2.lg [],h.nx,h2.nx⟩ prev=true)
  (ha:bz E (.draw nt W all base (i+1) (mc W M i (cx W M o)) (⟨i,true,[],below h.nx h2.lg [],h.nx,h2.nx⟩::prev) l (aY tmr o.dst v) ⟨eh (cx W M o) h.hp prev h2.hp,h2.nx,below h.nx h2.lg h.lg⟩) out):bz E (.draw nt W all base i M prev (o::l) tmr h) out:=by
 obtain ⟨n1,e1⟩:=ha;obtain ⟨n2,e2⟩:=hv;refine .step ⟨n1+n2,fun n hn=> ?_⟩
 rw[vX hd hw,hc];show QL (run E n) ⟨fF (cx W M o) prev h.hp,h.nx,[]⟩ (eW tmr.get c.callee) (bF tmr.get c.args.toList) (fun v h2=>jC (run E n) nt W all base i M (cx W M o) prev l tmr o.dst ⟨i,true,[],below h.nx h2.lg [],h.nx,h2.nx⟩ v ⟨eh (cx W M o) h.hp prev h2.hp,h2.nx,below h.nx h2.lg h.lg⟩) _=_
 rw[hf,has];show Dl (run E n (.call f aa ⟨fF (cx W M o) prev h.hp,h.nx,[]⟩)) (fun v h2=>jC (run E n) nt W all base i M (cx W M o) prev l tmr o.dst ⟨i,true,[],below h.nx h2.lg [],h.nx,h2.nx⟩ v ⟨eh (cx W M o) h.hp prev h2.hp,h2.nx,below h.nx h2.lg h.lg⟩) (fun v h2=>sel (FE l && (mQ (cx W M o) i && na (cx W M o) prev)) (.code (.pan v) tmr [] ⟨h2.hp,h2.nx,below h.nx h2.lg h.lg⟩) (.fail "panic in a drawn region"))=_
 rw[e2 n (by omega)]
 show jC (run E n) nt W all base i M (cx W M o) prev l tmr o.dst ⟨i,true,[],below h.nx h2.lg [],h.nx,h2.nx⟩ v ⟨eh (cx W M o) h.hp prev h2.hp,h2.nx,below h.nx h2.lg h.lg⟩=_;rw[yT hi];exact e1 n (by omega)
theorem tu:∀(us:List Up) {x:Nat},(∀u∈us,u.1≠x)→∀h:Hs,(h.ups us).hp.get x=h.hp.get x
 | [],_,_,h=>rfl
 |u::us,x,hu,h=>by
  show ((h.up u).ups us).hp.get x=_;rw[tu us (fun v hv=>hu v (List.mem_cons_of_mem _ hv)) (h.up u)]
  show (h.hp.set u.1 u.2).get x=_;rw[Tr.bR,if_neg (Ne.symm (hu u List.mem_cons_self))]
def LS.lJ (s:LS) (K:Nat):LS:=⟨(s.ea K).ts,cH K (s.ea K).bs⟩
def LS.oP (s:LS) (W:WK):LS:=match W with|none=>s|some q=>s.lJ q.1
theorem aeg {K t:Nat} {y:AV} (h:lk t (s.lJ K).ts=some y):∃x,lk t s.ts=some x∧y=iL K x:=by
 rw[show (s.lJ K).ts=s.ts.map fun p=>(p.1,iL K p.2) from rfl,iK] at h
 obtain ⟨x,hx,rfl⟩:=Option.map_eq_some_iff.1 h;exact ⟨x,hx,rfl⟩
theorem DG {K k:Nat} {b:Bx} (h:lk k (s.lJ K).bs=some b):k≠K∧∃b0,lk k s.bs=some b0∧b=b0.ea K:=by
 rw[show (s.lJ K).bs=cH K (s.bs.map fun p=>(p.1,p.2.ea K)) from rfl,er] at h
 split at h
 ·cases h
 ·rename_i hne;rw[iK] at h;obtain ⟨b0,h0,rfl⟩:=Option.map_eq_some_iff.1 h;exact ⟨hne,b0,h0,rfl⟩
theorem J9 (r:Rel B F g φ s tm h) (K:Nat):Rel B F g φ (s.lJ K) tm h:=by
 have r1:=Ko r K;refine r1.less ⟨fun t y hy=>.inr ⟨y,hy,WV.refl y⟩,fun k b hb=> ?_⟩
 rw[show (s.lJ K).bs=cH K (s.ea K).bs from rfl,er] at hb;split at hb
 ·cases hb
 ·exact ⟨b,hb,WB.refl b⟩
theorem EO (s:LS) (K:Nat):(s.lJ K).free K:=by
 obtain ⟨h1,h2⟩:=EU s K;refine ⟨h1,fun k b hne hb=>h2 k b hne ?_⟩
 rw[show (s.lJ K).bs=cH K (s.ea K).bs from rfl,er,if_neg hne] at hb;exact hb
theorem Rel.RG (r:Rel B F g φ s tm h) {F2:Hf} {g2:Gb} {φ2:Nat→List Nat} {s2:LS} {h':Hs} {tm2:Tf} (r2:Rel B F2 g2 φ2 s2 tm2 h') (hF:∀id o,F id=some o→h'.hp.get id=h.hp.get id) (hb:∀k b,lk k s.bs=some b→∀i∈φ k,h'.hp.get i=h.hp.get i) (hφ:∀k b,lk k s.bs=some b→φ2 k=φ k)
  (hgt:∀t x,lk t s.ts=some x→iz g g2 (bW x)) (hgb:∀k b,lk k s.bs=some b→iz g g2 [k]∧iz g g2 b.keys):Rel B F g2 φ2 s tm h':=by
 refine ⟨fun t x hx hn=> ?_,fun k b hk=> ?_,fun k k' b b' hk hk' hne i hi=> ?_,fun k b hk i hi=> ?_,fun i o ho=>(hF i o ho).trans (r.sub i o ho),r2.bd,r2.nx,r2.old,r.f0,r.fn,fun k b hk i hi=> ?_,r2.lg,r2.pin⟩
 ·obtain ⟨v,v1,v2⟩:=r.tm t x hx hn;exact ⟨v,v1,v2.gb (hgt t x hx)⟩
 ·rw[hφ k b hk];exact ((r.bx k b hk).jE (Hle.refl F) fun i hi=>hb k b hk i hi).gb (hgb k b hk).1 (hgb k b hk).2
 ·rw[hφ k b hk] at hi;rw[hφ k' b' hk'];exact r.dj k k' b b' hk hk' hne i hi
 ·rw[hφ k b hk] at hi;exact r.nf k b hk i hi
 ·rw[hφ k b hk] at hi;exact r.jD k b hk i hi
end
section
variable {F F':Hf} {g g':Gb} {B:Bs} {φ:Nat→List Nat} {s s' s1:LS} {tm:Tf} {h:Hs} {hp:Hf} {E:Env} {nt:Nat}
theorem sI {lo hi:Nat}:∀{l:List Nat},(∀x∈l,x<lo∨hi≤x)→jA lo hi l=true
 | [],_=>rfl
 |x::l,h=>by
  have ih:=sI (lo:=lo) (hi:=hi) (l:=l) fun y hy=>h y (List.mem_cons_of_mem _ hy)
  show sel (Nat.ble (Nat.succ x) lo) (jA lo hi l) (sel (Nat.ble hi x) (jA lo hi l) false)=true;rw[ih,aC,aC];rcases h x List.mem_cons_self with c|c
  ·rw[if_pos (Nat.ble_eq_true_of_le c)]
  ·rw[if_pos (Nat.ble_eq_true_of_le c)];split<;>rfl
theorem ue:∀{l m:List Nat},(∀x∈l,x∉m)→iO l m=true
 | [],_,_=>rfl
 |x::l,m,h=>by
  show sel (cc x m) false (iO l m)=true;rw[ue fun y hy=>h y (List.mem_cons_of_mem _ hy),aC,if_neg]
  exact fun hc=>h x List.mem_cons_self ((dV _ _).1 hc)
structure PI where
 i:Nat
 n:Nat
 rk:List Nat
 wk:List Nat
 wn:Bool
structure DR (B:Bs) (base W cur nc:Nat) (vs:List LS) (laid:bw) (pp:List (Rc×PI)) (g:Gb) (φ:Nat→List Nat) (Fs:Nat→Hf) (lim:Nat→Nat) (tm:Tf) (h:Hs):Prop where
 r:∀(j:Nat) (s:LS),vs[j]? =some s→Rel B (Fs j) g φ s tm h
 up:∀(j j':Nat) (s s':LS),j≤j'→vs[j]? =some s→vs[j']? =some s'→Hle (Fs j) (Fs j')∧∀k b,lk k s.bs=some b→∃b',lk k s'.bs=some b'
 fb:∀(j:Nat) (s:LS),vs[j]? =some s→∀id o,Fs j id=some o→id<base∨(base+W≤id∧id<lim j)
 bb:∀(j:Nat) (s:LS),vs[j]? =some s→∀k b,lk k s.bs=some b→∀i∈φ k,i<base∨(base+W≤i∧i<lim j)∨∃q,(k,q)∈laid∧q<cur∧i=base+q
 lm:∀(j:Nat) (s:LS),vs[j]? =some s→base+W≤lim j∧lim j≤h.nx
 top:vs.length=nc+1
 hx:base+W≤h.nx
 em:∀q,cur≤q→q<W→h.hp.get (base+q)=none
 bn:B.nx≤base
 pi:∀q∈pp,q.1.i=q.2.i∧q.2.i<cur∧q.2.n≤nc∧(q.2.n=0→q.1.call=false∧q.1.lo=base+q.2.i∧q.1.hi=base+q.2.i+1)∧(q.2.n≠0→q.1.call=true∧base+W≤q.1.lo∧q.1.hi≤h.nx∧∀(j:Nat) (s:LS),vs[j]? =some s→j<q.2.n→lim j≤q.1.lo)
 po:∀q∈pp,∀id,id∈q.1.rd∨id∈q.1.wr→id<base∨(base+W≤id∧id<h.nx)∨∃j,j≤q.2.i∧id=base+j
 pr:∀q∈pp,∀(j:Nat) (s:LS),vs[j]? =some s→∀k b,lk k s.bs=some b→∀i∈φ k,(i∈q.1.rd→k∈q.2.rk)∧(i∈q.1.wr→k∈q.2.wk)
 pf:∀q∈pp,∀i∈q.1.wr,∀(j:Nat) (s:LS),vs[j]? =some s→Fs j i=none
 pw:∀q∈pp,q.2.wn=true→q.1.wr= []
def xV (l m:Nat) (rk wk:List Nat) (call wn:Bool) (p:PI):Prop:=dC m p.i=true∨((p.n≠0→l<p.n∧call=false∧wn=true)∧(call=true→p.wn=true)∧(∀k∈wk,k∉p.rk∧k∉p.wk)∧∀k∈rk,k∉p.wk)
variable {base W cur nc:Nat} {vs:List LS} {laid:bw} {pp:List (Rc×PI)} {Fs:Nat→Hf} {lim:Nat→Nat}
theorem DR.indep (D:DR B base W cur nc vs laid pp g φ Fs lim tm h) {l m:Nat} {sl:LS} {rc:Rc} {rk wk:List Nat} {wn:Bool} (fG:cur<W) (hl:vs[l]? =some sl) (hrd:∀id∈rc.rd,(∃o,Fs l id=some o)∨∃k∈rk,∃b,lk k sl.bs=some b∧id∈φ k) (hwr:∀id∈rc.wr,∃k∈wk,∃b,lk k sl.bs=some b∧id∈φ k)
  (eL:∀id,rc.lo≤id→id<rc.hi→id=base+cur∨h.nx≤id) (nC:∀k j,(k∈rk∨k∈wk)→(k,j)∈laid→dC m j=true) (hwn:wn=true→rc.wr= []) (se:∀q∈pp,xV l m rk wk rc.call wn q.2):cT m rc (pp.map (·.1))=true:=by
 have key:∀(l:List (Rc×PI)),(∀q∈l,dC m q.1.i=true∨sQ q.1 rc=true)→cT m rc (l.map (·.1))=true:=fun l=>by
  induction l with
  |nil=>exact fun _=>rfl
  |cons q l ih=>
   intro hq;have ih:=ih fun p hp=>hq p (List.mem_cons_of_mem _ hp)
   show sel (dC m q.1.i) (cT m rc (l.map (·.1))) (sel (sQ q.1 rc) (cT m rc (l.map (·.1))) false)=true
   rw[ih,aC,aC];rcases hq q List.mem_cons_self with c|c
   ·rw[if_pos c]
   ·rw[if_pos c];split<;>rfl
 refine key pp fun q hq=> ?_
 obtain ⟨p1,p2,p3,p4,p5⟩:=D.pi q hq;rcases se q hq with c|⟨c1,c2,c3,c4⟩
 ·exact .inl (by rw[p1];exact c)
 by_cases hm:dC m q.2.i=true
 ·exact .inl (by rw[p1];exact hm)
 refine .inr ?_;have hoff:∀id,((∃o,Fs l id=some o)∨∃k,(k∈rk∨k∈wk)∧∃b,lk k sl.bs=some b∧id∈φ k)→id<q.1.lo∨q.1.hi≤id:=fun id hid=>by
  have oj:=D.lm l sl hl;by_cases hn:q.2.n=0
  ·obtain ⟨_,e1,e2⟩:=p4 hn;rw[e1,e2];rcases hid with ⟨o,ho⟩|⟨k,hk,b,hb,hi⟩
   ·rcases D.fb l sl hl id o ho with c|c<;>omega
   ·rcases D.bb l sl hl k b hb id hi with c|c|⟨j,j1,j2,rfl⟩
    ·omega
    ·omega
    ·have:j≠q.2.i:=fun e=>hm (by rw[←e];exact nC k j hk j1)
     omega
  ·obtain ⟨_,e1,e2,e3⟩:=p5 hn;have e3:=e3 l sl hl (c1 hn).1;rcases hid with ⟨o,ho⟩|⟨k,hk,b,hb,hi⟩
   ·rcases D.fb l sl hl id o ho with c|c<;>omega
   ·rcases D.bb l sl hl k b hb id hi with c|c|⟨j,j1,j2,rfl⟩<;>omega
 have hold:∀id,id∈q.1.rd∨id∈q.1.wr→id<rc.lo∨rc.hi≤id:=fun id hid=>by
  by_cases h1:rc.lo≤id
  ·by_cases h2:id<rc.hi
   ·have:=D.hx;rcases eL id h1 h2 with e|e<;>rcases D.po q hq id hid with c|c|⟨j,j1,rfl⟩<;>omega
   ·exact .inr (by omega)
  ·exact .inl (by omega)
 have i1:jA q.1.lo q.1.hi rc.rd=true:=sI fun id hid=>hoff id ((hrd id hid).elim .inl fun ⟨k,hk,x⟩=>.inr ⟨k,.inl hk,x⟩)
 have i2:jA q.1.lo q.1.hi rc.wr=true:=sI fun id hid=>hoff id (by obtain ⟨k,hk,x⟩:=hwr id hid;exact .inr ⟨k,.inr hk,x⟩)
 have i3:jA rc.lo rc.hi q.1.rd=true:=sI fun id hid=>hold id (.inl hid)
 have i4:jA rc.lo rc.hi q.1.wr=true:=sI fun id hid=>hold id (.inr hid)
 have i5:iO q.1.rd rc.wr=true:=ue fun id hid hw=>by
  obtain ⟨k,hk,b,hb,hi⟩:=hwr id hw;exact (c3 k hk).1 ((D.pr q hq l sl hl k b hb id hi).1 hid)
 have i6:iO rc.rd q.1.wr=true:=ue fun id hid hw=>by
  rcases hrd id hid with ⟨o,ho⟩|⟨k,hk,b,hb,hi⟩
  ·rw[D.pf q hq id hw l sl hl] at ho;cases ho
  ·exact c4 k hk ((D.pr q hq l sl hl k b hb id hi).2 hw)
 have i7:iO q.1.wr rc.wr=true:=ue fun id hid hw=>by
  obtain ⟨k,hk,b,hb,hi⟩:=hwr id hw;exact (c3 k hk).2 ((D.pr q hq l sl hl k b hb id hi).2 hid)
 have i8:sel q.1.call (sel rc.call false (pY rc.wr)) (sel rc.call (pY q.1.wr) true)=true:=by
  by_cases hn:q.2.n=0
  ·rw[(p4 hn).1];show sel rc.call (pY q.1.wr) true=true;cases hcl:rc.call with
   |false=>rfl
   |true=>show pY q.1.wr=true;rw[D.pw q hq (c2 hcl)];rfl
  ·rw[(p5 hn).1];obtain ⟨_,d1,d2⟩:=c1 hn;rw[d1,hwn d2];rfl
 show (jA q.1.lo q.1.hi rc.rd&&(jA q.1.lo q.1.hi rc.wr&&(jA rc.lo rc.hi q.1.rd&&(jA rc.lo rc.hi q.1.wr&&(iO q.1.rd rc.wr&&(iO rc.rd q.1.wr&&(iO q.1.wr rc.wr&&sel q.1.call (sel rc.call false (pY rc.wr)) (sel rc.call (pY q.1.wr) true))))))))=true;rw[i1,i2,i3,i4,i5,i6,i7,i8];rfl
def FC:Op→List Operand
 | .load _ x=> [x]
 | .store _ x y=> [x,y]
 | .lookup _ x k _=> [x,k]
 | .mapUpdate _ m k x=> [m,k,x]
 | .insert _ m k x=> [m,k,x]
 | .next it _=> [it]
 | .range _ x=> [x]
 | .call c=>c.args.toList
 |_=> []
def PU (op:Op):Bool:=match op with| .call c=>km c|_=>false
theorem Pu (op:Op) (tm:Tf):eF op tm=sel (PU op) (tO tm (FC op)) (iu tm (FC op)):=by cases op<;>rfl
def acx (bs:List (Nat×Bx)):AV→Option (List Nat)
 | .undef=>none
 | .loc K _=>(match lk K bs with|some (.flat _ _)=>some [K]|_=>none)
 | .el K _ _ _=>(match lk K bs with|some (.rows _ _ _ _)=>some [K]|some (.hole _ _ _ _ _)=>some [K]|_=>none)
 | .ms K _ _ _=>(match lk K bs with|some (.rows _ _ _ _)=>some [K]|_=>none)
 | .mp K=>(match lk K bs with|some (.map _)=>some [K]|_=>none)
 | .it K=>(match lk K bs with|some (.iter _ _)=>some [K]|_=>none)
 |_=>some []
def JQ (ts:List (Nat×AV)) (bs:List (Nat×Bx)):List Operand→Option (List Nat)
 | []=>some []
 |x::l=>aF (acx bs (aJ ts x)) (JQ ts bs l) fun a b=>some (a++b)
theorem YP (r:Rel B F g φ s tm h) {y:AV} {v:SV} {ks:List Nat} (hv:VA F g v y) (hk:acx s.bs y=some ks):∀id∈ey (some v),(∃o,F id=some o)∨∃k∈ks,∃b,lk k s.bs=some b∧id∈φ k:=by
 intro id hid;cases hv with
 |slice hF=>exact .inl (by rw[List.mem_singleton.1 hid];exact nY hF)
 |sln hF=>exact .inl (by rw[List.mem_singleton.1 hid];exact nY hF)
 |slf hF=>exact .inl (by rw[List.mem_singleton.1 hid];exact nY hF)
 |slx hF=>exact .inl (by rw[List.mem_singleton.1 hid];exact nY hF)
 |imm hF=>exact .inl (by rw[List.mem_singleton.1 hid];exact nY hF)
 |loc K off=>
  have hk:(match lk K s.bs with|some (.flat _ _)=>some [K]|_=>none)=some ks:=hk
  split at hk
  ·rename_i hb;cases hk;refine .inr ⟨K,by simp,_,hb,?_⟩
   have q:=r.bx K _ hb;generalize φ K=fp at q ⊢;cases q with|flat=>rw[List.mem_singleton.1 hid];simp
  ·cases hk
 | @el _ K s' j f hb0=>
  have hk:(match lk K s.bs with|some (.rows _ _ _ _)=>some [K]|some (.hole _ _ _ _ _)=>some [K]|_=>none)=some ks:=hk
  split at hk
  ·rename_i hb;cases hk;refine .inr ⟨K,by simp,_,hb,?_⟩
   have q:=r.bx K _ hb;generalize φ K=fp at q ⊢;cases q with
   |df hb1=>rw[hb0] at hb1;cases hb1
   |rows=>rw[List.mem_singleton.1 hid];simp
  ·rename_i hb;cases hk;refine .inr ⟨K,by simp,_,hb,?_⟩
   have q:=r.bx K _ hb;generalize φ K=fp at q ⊢;cases q with
   |hole=>rw[List.mem_singleton.1 hid];simp
  ·cases hk
 | @ms _ K s' lo n hb0=>
  have hk:(match lk K s.bs with|some (.rows _ _ _ _)=>some [K]|_=>none)=some ks:=hk
  split at hk
  ·rename_i hb;cases hk;refine .inr ⟨K,by simp,_,hb,?_⟩
   have q:=r.bx K _ hb;generalize φ K=fp at q ⊢;cases q with
   |df hb1=>rw[hb0] at hb1;cases hb1
   |rows=>rw[List.mem_singleton.1 hid];simp
  ·cases hk
 |mp K=>
  have hk:(match lk K s.bs with|some (.map _)=>some [K]|_=>none)=some ks:=hk
  split at hk
  ·rename_i hb;cases hk;refine .inr ⟨K,by simp,_,hb,?_⟩
   have q:=r.bx K _ hb;generalize φ K=fp at q ⊢;cases q with|map=>rw[List.mem_singleton.1 hid];simp
  ·cases hk
 |it K=>
  have hk:(match lk K s.bs with|some (.iter _ _)=>some [K]|_=>none)=some ks:=hk
  split at hk
  ·rename_i hb;cases hk;refine .inr ⟨K,by simp,_,hb,?_⟩
   have q:=r.bx K _ hb;generalize φ K=fp at q ⊢;cases q with|iter=>rw[List.mem_singleton.1 hid];simp
  ·cases hk
 |undef=>cases hk
 |_=>cases hid
theorem EI (r:Rel B F g φ s tm h):∀{l:List Operand} {ks:List Nat},JQ s.ts s.bs l=some ks→∀id∈iu tm l,(∃o,F id=some o)∨∃k∈ks,∃b,lk k s.bs=some b∧id∈φ k
 | [],_,_,id,hid=>by cases hid
 |x::l,ks,hk,id,hid=>by
  obtain ⟨a,b,h1,h2,h3⟩:=ay hk;cases h3;have hid:id∈ey (aI tm x)++iu tm l:=hid;rcases List.mem_append.1 hid with hid|hid
  ·have hne:aJ s.ts x≠ .undef:=fun e=>by rw[e] at h1;cases h1
   obtain ⟨v,v1,v2⟩:=r.val rfl hne;rw[v1] at hid;rcases YP r v2 h1 id hid with c|⟨k,hk,c⟩
   ·exact .inl c
   ·exact .inr ⟨k,List.mem_append_left _ hk,c⟩
  ·rcases EI r h2 id hid with c|⟨k,hk,c⟩
   ·exact .inl c
   ·exact .inr ⟨k,List.mem_append_right _ hk,c⟩
def WU (bs:List (Nat×Bx)):AV→Option (List Nat)
 | .undef=>none
 | .mp K=>(match lk K bs with|some (.map _)=>some [K]|_=>none)
 |_=>some []
def Dy (ts:List (Nat×AV)) (bs:List (Nat×Bx)):List Operand→Option (List Nat)
 | []=>some []
 |x::l=>aF (WU bs (aJ ts x)) (Dy ts bs l) fun a b=>some (a++b)
def sP (ts:List (Nat×AV)) (bs:List (Nat×Bx)) (op:Op):Option (List Nat):=sel (PU op) (Dy ts bs (FC op)) (JQ ts bs (FC op))
theorem WT (r:Rel B F g φ s tm h) {y:AV} {v:SV} {ks:List Nat} (hv:VA F g v y) (hk:WU s.bs y=some ks):∀id∈idM (some v),∃k∈ks,∃b,lk k s.bs=some b∧id∈φ k:=by
 intro id hid;cases hv with
 |mp K=>
  have hk:(match lk K s.bs with|some (.map _)=>some [K]|_=>none)=some ks:=hk
  split at hk
  ·rename_i hb;cases hk;refine ⟨K,by simp,_,hb,?_⟩
   have q:=r.bx K _ hb;generalize φ K=fp at q ⊢;cases q with|map=>rw[List.mem_singleton.1 hid];simp
  ·cases hk
 |undef=>cases hk
 |_=>cases hid
theorem AK (r:Rel B F g φ s tm h):∀{l:List Operand} {ks:List Nat},Dy s.ts s.bs l=some ks→∀id∈tO tm l,∃k∈ks,∃b,lk k s.bs=some b∧id∈φ k
 | [],_,_,id,hid=>by cases hid
 |x::l,ks,hk,id,hid=>by
  obtain ⟨a,b,h1,h2,h3⟩:=ay hk;cases h3;have hne:aJ s.ts x≠ .undef:=fun e=>by rw[e] at h1;cases h1
  obtain ⟨v,v1,v2⟩:=r.val rfl hne;rcases List.mem_append.1 (show id∈idM (aI tm x)++tO tm l from hid) with hid|hid
  ·rw[v1] at hid;obtain ⟨k,c1,c2⟩:=WT r v2 h1 id hid;exact ⟨k,List.mem_append_left _ c1,c2⟩
  ·obtain ⟨k,c1,c2⟩:=AK r h2 id hid;exact ⟨k,List.mem_append_right _ c1,c2⟩
theorem P2 (r:Rel B F g φ s tm h) {op:Op} {ks:List Nat} (hk:sP s.ts s.bs op=some ks):∀id∈eF op tm,(∃o,F id=some o)∨∃k∈ks,∃b,lk k s.bs=some b∧id∈φ k:=by
 rw[Pu];unfold sP at hk;cases hl:PU op with
 |true=>
  rw[hl] at hk;exact fun id hid=>.inr (AK r hk id hid)
 |false=>
  rw[hl] at hk;exact fun id hid=>EI r hk id hid
end
section
variable {F F':Hf} {g g':Gb} {B:Bs} {φ:Nat→List Nat} {s s' s1:LS} {tm:Tr SV} {h:Hs} {hp:Hf} {E:Env} {nt:Nat}
variable {base W cur nc:Nat} {vs vs':List LS} {laid:bw} {pp:List (Rc×PI)} {Fs:Nat→Hf} {lim:Nat→Nat}
theorem tq {new:Nat}:∀{us:List Up} {id:Nat},id∈gK new us→id≠new∧∃u∈us,u.1=id
 | [],id,h=>by cases h
 |u::us,id,h=>by
  have h:id∈sel (Nat.beq u.1 new) (gK new us) (u.1::gK new us):=h;rw[aC] at h;split at h
  ·obtain ⟨a,v,b,c⟩:=tq h;exact ⟨a,v,List.mem_cons_of_mem _ b,c⟩
  ·rename_i hne;rcases List.mem_cons.1 h with rfl|h
   ·exact ⟨fun e=>hne ((beq_iff _ _).2 e),u,List.mem_cons_self,rfl⟩
   ·obtain ⟨a,v,b,c⟩:=tq h;exact ⟨a,v,List.mem_cons_of_mem _ b,c⟩
theorem X3 {new:Nat} {us:List Up} (h:∀u∈us,u.1=new):gK new us= []:=by
 cases hw:gK new us with
 |nil=>rfl
 |cons a l=>
  obtain ⟨h1,u,h2,h3⟩:=tq (new:=new) (us:=us) (id:=a) (by rw[hw];exact List.mem_cons_self)
  exact absurd (h3.symm.trans (h u h2)) h1
def lh:WK→List Nat
 |some (K,false)=> [K]
 |_=> []
def uT:WK→Bool
 |some (_,false)=>false
 |_=>true
def FI (Wk:WK) (cur:Nat) (laid:bw):bw:=match Wk with|some q=>(q.1,cur)::laid|none=>laid
theorem D9 {Wk:WK} {new:Nat} {us:List Up} {v:SV} {k:Nat} (hk:∀l,Wk≠some (k,l)):iz g (qw g Wk new us v) [k]:=by
 cases Wk with
 |none=>exact fun _ _=>⟨rfl,rfl,rfl⟩
 |some q=>
  show iz g (if dM new us=true then g.at q.1 new (D8 v) else g) [k]
  split
  ·exact RH fun e=>hk q.2 (by rw[e])
  ·exact fun _ _=>⟨rfl,rfl,rfl⟩
theorem Z2 {Wk:WK} {new:Nat} {us:List Up} {k:Nat} (hk:dM new us=false∨∀l,Wk≠some (k,l)):oY φ Wk new us k=φ k:=by
 cases Wk with
 |none=>rfl
 |some q=>
  show (if dM new us=true then fun k=>if k=q.1 then [new] else φ k else φ) k=φ k
  rcases hk with hk|hk
  ·rw[hk];rfl
  ·split
   ·exact if_neg fun e=>hk q.2 (by rw[e])
   ·rfl
theorem KS {Wk:WK} {new:Nat} {us:List Up} {k i:Nat} (hi:i∈oY φ Wk new us k):(i=new∧dM new us=true∧∃l,Wk=some (k,l))∨(i∈φ k∧(dM new us=false∨∀l,Wk≠some (k,l))):=by
 cases Wk with
 |none=>exact .inr ⟨hi,.inr fun l hl=>by cases hl⟩
 |some q=>
  have hi:i∈(if dM new us=true then fun k=>if k=q.1 then [new] else φ k else φ) k:=hi
  split at hi
  ·rename_i hn;by_cases hk:k=q.1
   ·rw[show (fun k=>if k=q.1 then [new] else φ k) k= [new] from if_pos hk] at hi
    exact .inl ⟨List.mem_singleton.1 hi,hn,q.2,by rw[hk]⟩
   ·rw[show (fun k=>if k=q.1 then [new] else φ k) k=φ k from if_neg hk] at hi
    exact .inr ⟨hi,.inr fun l hl=>hk (by cases hl;rfl)⟩
  ·rename_i hn;exact .inr ⟨hi,.inl (by cases hx:dM new us with|false=>rfl|true=>exact absurd hx hn)⟩
theorem mT {Wk:WK} {k:Nat} {b:Bx} (h:lk k (s.oP Wk).bs=some b):(∀l,Wk≠some (k,l))∧∃b0,lk k s.bs=some b0:=by
 cases Wk with
 |none=>exact ⟨fun l hl=>(by cases hl),b,h⟩
 |some q=>
  obtain ⟨h1,b0,h2,_⟩:=DG (s:=s) (K:=q.1) h;exact ⟨fun l hl=>h1 (by cases hl;rfl),b0,h2⟩
theorem W5 (r:Rel B F g φ s tm.get h) (Wk:WK):Rel B F g φ (s.oP Wk) tm.get h:=by
 cases Wk with
 |none=>exact r
 |some q=>exact J9 r q.1
theorem EP {Wk:WK} {k:Nat} {b:Bx} (h1:∀l,Wk≠some (k,l)) (h2:lk k s.bs=some b):∃b',lk k (s.oP Wk).bs=some b':=by
 cases Wk with
 |none=>exact ⟨b,h2⟩
 |some q=>
  have hne:k≠q.1:=fun e=>h1 q.2 (by rw[e])
  show ∃b',lk k (cH q.1 (s.bs.map fun p=>(p.1,p.2.ea q.1)))=some b'
  rw[er,if_neg hne,iK,h2];exact ⟨_,rfl⟩
theorem AW {Wk:WK} {K:Nat} {l:Bool} (h:Wk=some (K,l)):(s.oP Wk).free K:=by
 subst h;exact EO s K
theorem fB {d:Option Nat} {x:AV}:(s.aY d x).bs=s.bs:=by cases d<;>rfl
theorem DM {α:Type} {l l':List α} (h:l'.length=l.length) {j:Nat} {x:α} (hx:l'[j]? =some x):∃y,l[j]? =some y:=by
 have:=(List.getElem?_eq_some_iff.1 hx).1;exact ⟨_,List.getElem?_eq_some_iff.2 ⟨by omega,rfl⟩⟩
theorem DR.op (D:DR B base W cur nc vs laid pp g φ Fs lim tm.get h) {o:Oper} {m l:Nat} {x:AV} {Wk:WK} {sl:LS} {rk:List Nat} (fG:cur<W) (hl:vs[l]? =some sl) (hlen:vs'.length=vs.length)
  (hOK:∀j s,vs[j]? =some s→l≤j→∃t,vs'[j]? =some (t.aY o.dst x)∧aP E B o.op s t x Wk) (DI:∀j s,vs[j]? =some s→j<l→vs'[j]? =some ((s.oP Wk).aY o.dst .undef))
  (hrk:sP sl.ts sl.bs o.op=some rk) (nC:∀k j,(k∈rk∨k∈lh Wk)→(k,j)∈laid→dC m j=true) (se:∀q∈pp,xV l m rk (lh Wk) false (uT Wk) q.2):
  ∃v us,opA E o.op tm.get h.hp.get (base+cur)=some (v,us)∧cT m ⟨cur,false,eF o.op tm.get,gK (base+cur) us,base+cur,base+cur+1⟩ (pp.map (·.1))=true∧
   ∃g' φ',DR B base W (cur+1) nc vs' (FI Wk cur laid) ((⟨cur,false,eF o.op tm.get,gK (base+cur) us,base+cur,base+cur+1⟩,⟨cur,0,rk,lh Wk,uT Wk⟩)::pp) g' φ' Fs lim (aY tm o.dst v).get (h.ups us):=by
 generalize eL:base+cur=new;have j9:h.hp.get new=none:=by rw[←eL];exact D.em cur (Nat.le_refl _) fG
 have hlo:B.nx≤new:=by have:=D.bn;omega
 obtain ⟨tl,tl1,tl2⟩:=hOK l sl hl (Nat.le_refl _);have rl:=D.r l sl hl;obtain ⟨v,us,o1,o2,o3,o4,o5,o6⟩:=tl2.go rl j9 hlo;have hU:Upd h us new (h.ups us)∨(us= []∧h.ups us=h):=.inl ⟨fun _=>rfl,by rw[pH];exact Nat.le_refl _,by rw[pH];have:=D.hx;omega,fun y hy=>hy⟩
 have hnx:(h.ups us).nx=h.nx:=pH us h;have hw:∀id∈gK new us,∃k∈lh Wk,∃b,lk k sl.bs=some b∧id∈φ k:=fun id hid=>by
  obtain ⟨h1,u,h2,h3⟩:=tq hid;rcases o4 u h2 with c|⟨K,b,c1,c2,c3⟩
  ·exact absurd (h3.symm.trans c) h1
  ·rw[c1];exact ⟨K,by simp[lh],b,c2,by rw[←h3];exact c3⟩
 have hrd:∀id∈eF o.op tm.get,(∃o,Fs l id=some o)∨∃k∈rk,∃b,lk k sl.bs=some b∧id∈φ k:=fun id hid=>P2 rl hrk id hid
 have hwn:uT Wk=true→gK new us= []:=fun hn=>X3 fun u hu=>(o4 u hu).elim (fun c=>c) fun ⟨K,b,c1,_⟩=>by rw[c1] at hn;cases hn
 refine ⟨v,us,o1,D.indep (rk:=rk) (wk:=lh Wk) (wn:=uT Wk) fG hl hrd hw (fun id h1 h2=>.inl (by
  have h1:new≤id:=h1;have h2:id<new+1:=h2;omega)) nC hwn se,qw g Wk new us v,oY φ Wk new us,?_⟩
 have QB:∀(j:Nat) (s:LS),vs[j]? =some s→∀i,((∃o,Fs j i=some o)∨∃k b,(∀l,Wk≠some (k,l))∧lk k s.bs=some b∧i∈φ k)→∀u∈us,u.1≠i:=fun j s hj i hi u hu e=>by
  have hcom:∃t st,vs[t]? =some st∧j≤t∧l≤t:=by
   rcases Nat.le_total j l with c|c
   ·exact ⟨l,sl,hl,c,Nat.le_refl _⟩
   ·exact ⟨j,s,hj,Nat.le_refl _,c⟩
  obtain ⟨t,st,ht,t1,t2⟩:=hcom;have rt:=D.r t st ht;rcases o4 u hu with c|⟨K,b,c1,c2,c3⟩
  ·rw[e] at c;rcases hi with ⟨o,ho⟩|⟨k,b,_,hb,hi⟩
   ·rw[c] at ho;have:=(D.r j s hj).sub new o ho;rw[j9] at this;cases this
   ·exact ((D.r j s hj).bx k b hb).there i hi (by rw[c];exact j9)
  ·obtain ⟨b',hb'⟩:=(D.up l t sl st t2 hl ht).2 K b c2;rw[e] at c3;rcases hi with ⟨o,ho⟩|⟨k,b1,hk,hb,hi⟩
   ·have:=(D.up j t s st t1 hj ht).1 i o ho;rw[rt.nf K b' hb' i c3] at this;cases this
   ·obtain ⟨b2,hb2⟩:=(D.up j t s st t1 hj ht).2 k b1 hb;exact rt.dj k K b2 b' hb2 hb' (fun e=>hk false (by rw[e];exact c1)) i hi c3
 have sep:∀(j:Nat) (s:LS),vs[j]? =some s→∀i,((∃o,Fs j i=some o)∨∃k b,(∀l,Wk≠some (k,l))∧lk k s.bs=some b∧i∈φ k)→(h.ups us).hp.get i=h.hp.get i:=fun j s hj i hi=>tu us (fun u hu=>QB j s hj i hi u hu) h
 have seen:∀{j:Nat} {s':LS},vs'[j]? =some s'→∃s,vs[j]? =some s∧(∀k b,lk k s'.bs=some b→(∃b,lk k s.bs=some b)∨(dM new us=true∧∃l,Wk=some (k,l)))∧(j<l→∀k b,lk k s'.bs=some b→∀l,Wk≠some (k,l)):=fun {j s'} hj'=>by
  obtain ⟨s,hj⟩:=DM hlen hj';refine ⟨s,hj,?_⟩;rcases Nat.lt_or_ge j l with c|c
  ·have:=DI j s hj c;rw[hj'] at this;cases this;refine ⟨fun k b hb=> ?_,fun _ k b hb=> ?_⟩
   ·rw[fB] at hb;exact .inl (mT hb).2
   ·rw[fB] at hb;exact (mT hb).1
  ·obtain ⟨t,e1,e2⟩:=hOK j s hj c;rw[hj'] at e1;cases e1;obtain ⟨v',us',p1,p2,p3,p4,p5,p6⟩:=e2.go (D.r j s hj) j9 hlo;rw[o1] at p1;cases p1;refine ⟨fun k b hb=> ?_,fun hc=>by omega⟩
   rw[fB] at hb;exact p5 k b hb
 have same:∀{j1:Nat} {s1:LS} {k1:Nat} {b1:Bx} {j2:Nat} {s2:LS} {k2:Nat} {b2:Bx} {i:Nat},vs[j1]? =some s1→lk k1 s1.bs=some b1→i∈φ k1→vs[j2]? =some s2→lk k2 s2.bs=some b2→i∈φ k2→k1=k2:=fun {j1 s1 k1 b1 j2 s2 k2 b2 i} h1 h2 h3 h4 h5 h6=>by
  rcases Nat.le_total j1 j2 with c|c
  ·obtain ⟨b,hb⟩:=(D.up j1 j2 s1 s2 c h1 h4).2 k1 b1 h2;exact Classical.byContradiction fun hne=>(D.r j2 s2 h4).dj k1 k2 b b2 hb h5 hne i h3 h6
  ·obtain ⟨b,hb⟩:=(D.up j2 j1 s2 s1 c h4 h1).2 k2 b2 h5;exact Classical.byContradiction fun hne=>(D.r j1 s1 h1).dj k1 k2 b1 b h2 hb hne i h3 h6
 have noF:∀{j1:Nat} {s1:LS} {o:SO} {j2:Nat} {s2:LS} {k2:Nat} {b2:Bx} {i:Nat},vs[j1]? =some s1→Fs j1 i=some o→vs[j2]? =some s2→lk k2 s2.bs=some b2→i∈φ k2→False:=fun {j1 s1 o j2 s2 k2 b2 i} h1 h2 h4 h5 h6=>by
  rcases Nat.le_total j1 j2 with c|c
  ·have:=(D.up j1 j2 s1 s2 c h1 h4).1 i o h2;rw[(D.r j2 s2 h4).nf k2 b2 h5 i h6] at this;cases this
  ·obtain ⟨b,hb⟩:=(D.up j2 j1 s2 s1 c h4 h1).2 k2 b2 h5;rw[(D.r j1 s1 h1).nf k2 b hb i h6] at h2;cases h2
 have r2:∀(j:Nat) (s':LS),vs'[j]? =some s'→Rel B (Fs j) (qw g Wk new us v) (oY φ Wk new us) s' (aY tm o.dst v).get (h.ups us):=fun j s' hj'=>by
  obtain ⟨s,hj⟩:=DM hlen hj';rcases Nat.lt_or_ge j l with c|c
  ·have:=DI j s hj c;rw[hj'] at this;cases this;refine Rel.aY ?_ (fun hc=>absurd rfl hc)
   refine (W5 (D.r j s hj) Wk).RG (o3 _ hU) (fun id o ho=>sep j s hj id (.inl ⟨o,ho⟩)) (fun k b hb i hi=> ?_) (fun k b hb=>Z2 (.inr (mT hb).1)) (fun t y hy=> ?_) fun k b hb=>⟨D9 (mT hb).1,?_⟩
   ·obtain ⟨c1,b0,c2⟩:=mT hb;exact sep j s hj i (.inr ⟨k,b0,c1,c2,hi⟩)
   ·intro k hk;refine D9 (k:=k) (fun l hl=> ?_) k (by simp)
    exact (AW (s:=s) hl).1 t y hy hk
   ·intro k' hk';refine D9 (k:=k') (fun l hl=> ?_) k' (by simp)
    exact (AW (s:=s) hl).2 k b (fun e=>(mT hb).1 l (by rw[e];exact hl)) hb hk'
  ·obtain ⟨t,e1,e2⟩:=hOK j s hj c;rw[hj'] at e1;cases e1;obtain ⟨v',us',p1,p2,p3,p4,p5,p6⟩:=e2.go (D.r j s hj) j9 hlo;rw[o1] at p1;cases p1;exact (p3 _ hU).aY fun _=>p2
 refine ⟨r2,fun j j' s s' hjj hj hj'=> ?_,fun j s' hj' id o ho=> ?_,fun j s' hj' k b hb i hi=> ?_,fun j s' hj'=> ?_,by rw[hlen];exact D.top,by rw[hnx];exact D.hx,fun q hq hq'=> ?_,D.bn,fun q hq=> ?_,fun q hq id hid=> ?_,fun q hq j s' hj' k b hb i hi=> ?_,fun q hq i hi j s' hj'=> ?_,fun q hq hn=> ?_⟩
 ·obtain ⟨s0,a1,a2,a3⟩:=seen hj;obtain ⟨s0',b1,b2,b3⟩:=seen hj';refine ⟨(D.up j j' s0 s0' hjj a1 b1).1,fun k b hb=> ?_⟩
  rcases Nat.lt_or_ge j' l with c|c
  ·have e0:=DI j' s0' b1 c;rw[hj'] at e0;cases e0;have hne:=a3 (by omega) k b hb
   rcases a2 k b hb with ⟨b',hb'⟩|⟨_,l',hl'⟩
   ·obtain ⟨b2',hb2'⟩:=(D.up j j' s0 s0' hjj a1 b1).2 k b' hb';rw[fB];exact EP hne hb2'
   ·exact absurd hl' (hne l')
  ·obtain ⟨t,e1,e2⟩:=hOK j' s0' b1 c;rw[hj'] at e1;cases e1;obtain ⟨v',us',p1,p2,p3,p4,p5,p6⟩:=e2.go (D.r j' s0' b1) j9 hlo;rw[fB];rcases a2 k b hb with ⟨b',hb'⟩|⟨_,l',hl'⟩
   ·exact p6 k (.inl ((D.up j j' s0 s0' hjj a1 b1).2 k b' hb'))
   ·exact p6 k (.inr ⟨l',hl'⟩)
 ·obtain ⟨s,hj⟩:=DM hlen hj';exact D.fb j s hj id o ho
 ·obtain ⟨s0,a1,a2,a3⟩:=seen hj';rcases KS hi with ⟨c1,c2,l',c3⟩|⟨c1,c2⟩
  ·refine .inr (.inr ⟨cur,?_,Nat.lt_succ_self _,by rw[c1,eL]⟩)
   rw[c3];exact List.mem_cons_self
  ·have hs:∃b,lk k s0.bs=some b:=by
    rcases a2 k b hb with c|⟨d1,l',d2⟩
    ·exact c
    ·rcases c2 with c2|c2
     ·rw[c2] at d1;cases d1
     ·exact absurd d2 (c2 l')
   obtain ⟨b0,hb0⟩:=hs;rcases D.bb j s0 a1 k b0 hb0 i c1 with d|d|⟨q,d1,d2,d3⟩
   ·exact .inl d
   ·exact .inr (.inl d)
   ·refine .inr (.inr ⟨q,?_,by omega,d3⟩)
    unfold FI;split
    ·exact List.mem_cons_of_mem _ d1
    ·exact d1
 ·obtain ⟨s,hj⟩:=DM hlen hj';rw[hnx];exact D.lm j s hj
 ·have hq0:h.hp.get (base+q)=none:=D.em q (by omega) hq'
  rw[tu us (fun u hu e=> ?_) h]
  ·exact hq0
  ·rcases o4 u hu with c|⟨K,b,_,c2,c3⟩
   ·omega
   ·rw[e] at c3;exact (rl.bx K b c2).there _ c3 hq0
 ·rcases List.mem_cons.1 hq with rfl|hq
  ·exact ⟨rfl,Nat.lt_succ_self _,Nat.zero_le _,fun _=>⟨rfl,eL.symm,by show new+1=base+cur+1;omega⟩,fun hc=>absurd rfl hc⟩
  ·obtain ⟨p1,p2,p3,p4,p5⟩:=D.pi q hq;refine ⟨p1,by omega,p3,p4,fun hn=> ?_⟩
   obtain ⟨a1,a2,a3,a4⟩:=p5 hn;refine ⟨a1,a2,by rw[hnx];exact a3,fun j s' hj' hlt=> ?_⟩
   obtain ⟨s,hj⟩:=DM hlen hj';exact a4 j s hj hlt
 ·rw[hnx];rcases List.mem_cons.1 hq with rfl|hq
  ·have oj:=D.lm l sl hl;have hid:(∃o,Fs l id=some o)∨∃k b,lk k sl.bs=some b∧id∈φ k:=by
    rcases hid with c|c
    ·rcases hrd id c with c|⟨k,_,b,c1,c2⟩
     ·exact .inl c
     ·exact .inr ⟨k,b,c1,c2⟩
    ·obtain ⟨k,_,b,c1,c2⟩:=hw id c;exact .inr ⟨k,b,c1,c2⟩
   rcases hid with ⟨o,ho⟩|⟨k,b,c1,c2⟩
   ·rcases D.fb l sl hl id o ho with d|d
    ·exact .inl d
    ·exact .inr (.inl (by omega))
   ·rcases D.bb l sl hl k b c1 id c2 with d|d|⟨q,d1,d2,d3⟩
    ·exact .inl d
    ·exact .inr (.inl (by omega))
    ·exact .inr (.inr ⟨q,(show q≤cur by omega),d3⟩)
  ·exact D.po q hq id hid
 ·obtain ⟨s0,a1,a2,a3⟩:=seen hj';have hs:(i=new)∨(i∈φ k∧∃b,lk k s0.bs=some b):=by
   rcases KS hi with ⟨c1,_⟩|⟨c1,c2⟩
   ·exact .inl c1
   ·refine .inr ⟨c1,?_⟩;rcases a2 k b hb with c|⟨d1,l',d2⟩
    ·exact c
    ·rcases c2 with c2|c2
     ·rw[c2] at d1;cases d1
     ·exact absurd d2 (c2 l')
  rcases List.mem_cons.1 hq with rfl|hq
  ·refine ⟨fun hr=> ?_,fun hr=> ?_⟩
   ·rcases hrd i hr with ⟨o,ho⟩|⟨k0,hk0,b0,c1,c2⟩
    ·rcases hs with rfl|⟨c1,b0,c2⟩
     ·rw[rl.sub _ o ho] at j9;cases j9
     ·exact (noF hl ho a1 c2 c1).elim
    ·rcases hs with rfl|⟨d1,b1,d2⟩
     ·exact absurd j9 ((rl.bx k0 b0 c1).there _ c2)
     ·rw[same a1 d2 d1 hl c1 c2];exact hk0
   ·obtain ⟨k0,hk0,b0,c1,c2⟩:=hw i hr;rcases hs with rfl|⟨d1,b1,d2⟩
    ·exact absurd j9 ((rl.bx k0 b0 c1).there _ c2)
    ·rw[same a1 d2 d1 hl c1 c2];exact hk0
  ·rcases hs with e|⟨d1,b1,d2⟩
   ·obtain ⟨p1,p2,_⟩:=D.pi q hq;have hno:¬(i∈q.1.rd∨i∈q.1.wr):=fun hc=>by
     have:=D.hx;rcases D.po q hq i hc with d|d|⟨j',d1,d2⟩<;>omega
    exact ⟨fun hc=>absurd (.inl hc) hno,fun hc=>absurd (.inr hc) hno⟩
   ·exact D.pr q hq j s0 a1 k b1 d2 i d1
 ·obtain ⟨s0,hj⟩:=DM hlen hj';rcases List.mem_cons.1 hq with rfl|hq
  ·obtain ⟨k0,hk0,b0,c1,c2⟩:=hw i hi;cases hf:Fs j i with
   |none=>rfl
   |some o=>exact (noF hj hf hl c1 c2).elim
  ·exact D.pf q hq i hi j s0 hj
 ·rcases List.mem_cons.1 hq with rfl|hq
  ·exact hwn hn
  ·exact D.pw q hq hn
end
section
variable {F F':Hf} {g g':Gb} {B:Bs} {φ:Nat→List Nat} {s s' s1:LS} {tm:Tr SV} {h:Hs} {hp:Hf} {E:Env} {nt:Nat}
variable {base W cur nc:Nat} {vs vs':List LS} {laid:bw} {pp:List (Rc×PI)} {Fs:Nat→Hf} {lim:Nat→Nat}
theorem DR.skip (D:DR B base W cur nc vs laid pp g φ Fs lim tm.get h) {d:Option Nat} {m:Nat} (fG:cur<W):
  cT m ⟨cur,false,[],[],base+cur,base+cur+1⟩ (pp.map (·.1))=true∧DR B base W (cur+1) nc (vs.map fun s=>s.aY d (.tup [])) laid ((⟨cur,false,[],[],base+cur,base+cur+1⟩,⟨cur,0,[],[],true⟩)::pp) g φ Fs lim (aY tm d (.tup [])).get h:=by
 have hlt:0<vs.length:=by rw[D.top];omega
 have hl:vs[0]? =some vs[0]:=List.getElem?_eq_getElem hlt;have back:∀{j:Nat} {s':LS},(vs.map fun s=>s.aY d (.tup []))[j]? =some s'→∃s,vs[j]? =some s∧s'=s.aY d (.tup []):=fun {j s'} hj=>by
  rw[List.getElem?_map] at hj;obtain ⟨s,hs,rfl⟩:=Option.map_eq_some_iff.1 hj;exact ⟨s,hs,rfl⟩
 refine ⟨?_,fun j s' hj=> ?_,fun j j' s s' hjj hj hj'=> ?_,fun j s' hj=> ?_,fun j s' hj k b hb i hi=> ?_,fun j s' hj=> ?_,by rw[List.length_map];exact D.top,D.hx,fun q hq hq'=>D.em q (by omega) hq',D.bn,fun q hq=> ?_,fun q hq id hid=> ?_,fun q hq j s' hj k b hb i hi=> ?_,fun q hq i hi j s' hj=> ?_,fun q hq hn=> ?_⟩
 ·refine D.indep (l:=0) (rk:= []) (wk:= []) (wn:=true) fG hl (fun id hid=>by cases hid) (fun id hid=>by cases hid) (fun id h1 h2=>.inl ?_) (fun k j hk=>by rcases hk with c|c<;>cases c) (fun _=>rfl) fun q hq=> ?_
  ·have h1:base+cur≤id:=h1;have h2:id<base+cur+1:=h2;omega
  ·exact .inr ⟨fun hn=>⟨by omega,rfl,rfl⟩,fun hc=>(by cases hc),fun k hk=>(by cases hk),fun k hk=>by cases hk⟩
 ·obtain ⟨s,hs,rfl⟩:=back hj;exact (D.r j s hs).aY fun _=>.tup .nil
 ·obtain ⟨s0,hs,rfl⟩:=back hj;obtain ⟨s0',hs',rfl⟩:=back hj';obtain ⟨a,b⟩:=D.up j j' s0 s0' hjj hs hs';exact ⟨a,fun k b' hb=>by rw[fB] at hb ⊢;exact b k b' hb⟩
 ·obtain ⟨s,hs,rfl⟩:=back hj;exact D.fb j s hs
 ·obtain ⟨s,hs,rfl⟩:=back hj;rw[fB] at hb;rcases D.bb j s hs k b hb i hi with c|c|⟨q,c1,c2,c3⟩
  ·exact .inl c
  ·exact .inr (.inl c)
  ·exact .inr (.inr ⟨q,c1,by omega,c3⟩)
 ·obtain ⟨s,hs,rfl⟩:=back hj;exact D.lm j s hs
 ·rcases List.mem_cons.1 hq with rfl|hq
  ·exact ⟨rfl,Nat.lt_succ_self _,Nat.zero_le _,fun _=>⟨rfl,rfl,rfl⟩,fun hc=>absurd rfl hc⟩
  ·obtain ⟨p1,p2,p3,p4,p5⟩:=D.pi q hq;refine ⟨p1,by omega,p3,p4,fun hn=> ?_⟩
   obtain ⟨a1,a2,a3,a4⟩:=p5 hn;exact ⟨a1,a2,a3,fun j s' hj hlt=>by obtain ⟨s,hs,rfl⟩:=back hj;exact a4 j s hs hlt⟩
 ·rcases List.mem_cons.1 hq with rfl|hq
  ·rcases hid with c|c<;>cases c
  ·exact D.po q hq id hid
 ·obtain ⟨s,hs,rfl⟩:=back hj;rw[fB] at hb;rcases List.mem_cons.1 hq with rfl|hq
  ·exact ⟨fun hc=>(by cases hc),fun hc=>by cases hc⟩
  ·exact D.pr q hq j s hs k b hb i hi
 ·obtain ⟨s,hs,rfl⟩:=back hj;rcases List.mem_cons.1 hq with rfl|hq
  ·cases hi
  ·exact D.pf q hq i hi j s hs
 ·rcases List.mem_cons.1 hq with rfl|hq
  ·rfl
  ·exact D.pw q hq hn
def LS.tQ (s:LS):List Nat→LS
 | []=>s
 |k::ks=>(s.lJ k).tQ ks
theorem QA {K K':Nat} (hf:s.free K):(s.lJ K').free K:=by
 refine ⟨fun t x hx hc=> ?_,fun k b hne hb hc=> ?_⟩
 ·obtain ⟨y,hy,rfl⟩:=aeg hx;unfold iL at hc;rw[aC] at hc;split at hc
  ·cases hc
  ·exact hf.1 t y hy hc
 ·obtain ⟨_,b0,h0,rfl⟩:=DG hb;have h2:=hf.2 k b0 hne h0;cases b0 with
  |flat e cs=>
   have key:∀cs:List AV,K∈cI (ql K' cs)→K∈cI cs:=fun cs=>by
    induction cs with
    |nil=>exact fun h=>h
    |cons x l ih=>
     intro h;rcases List.mem_append.1 (show K∈bW (iL K' x)++cI (ql K' l) from h) with h|h
     ·unfold iL at h;rw[aC] at h;split at h
      ·cases h
      ·exact List.mem_append_left _ h
     ·exact List.mem_append_right _ (ih h)
   exact h2 (key cs hc)
  |hole e s0 Q i x=>
   refine h2 ?_;have h:K∈bW (iL K' x):=hc;unfold iL at h;rw[aC] at h;split at h
   ·cases h
   ·exact h
  |_=>cases hc
theorem ER:∀(ks:List Nat) {s:LS},Rel B F g φ s tm.get h→Rel B F g φ (s.tQ ks) tm.get h
 | [],_,r=>r
 |k::ks,_,r=>ER ks (J9 r k)
theorem Ka:∀{ks:List Nat} {s:LS} {k:Nat} {b:Bx},lk k (s.tQ ks).bs=some b→k∉ks∧∃b0,lk k s.bs=some b0
 | [],_,_,b,h=>⟨fun hc=>(by cases hc),b,h⟩
 |K::ks,s,k,b,h=>by
  obtain ⟨h1,b0,h2⟩:=Ka (ks:=ks) (s:=s.lJ K) h;obtain ⟨h3,b1,h4,_⟩:=DG h2;exact ⟨fun hc=>(List.mem_cons.1 hc).elim h3 h1,b1,h4⟩
theorem ES:∀{ks:List Nat} {s:LS} {k:Nat} {b:Bx},k∉ks→lk k s.bs=some b→∃b',lk k (s.tQ ks).bs=some b'
 | [],_,_,b,_,h=>⟨b,h⟩
 |K::ks,s,k,b,hk,h=>by
  obtain ⟨b',hb'⟩:=EP (s:=s) (Wk:=some (K,true)) (k:=k) (fun l hl=>hk (by cases hl;exact List.mem_cons_self)) h
  exact ES (ks:=ks) (s:=s.lJ K) (fun hc=>hk (List.mem_cons_of_mem _ hc)) hb'
theorem AX {K:Nat}:∀{ks:List Nat} {s:LS},s.free K→(s.tQ ks).free K
 | [],_,h=>h
 |k::ks,_,h=>AX (ks:=ks) (QA h)
theorem AY:∀{ks:List Nat} {s:LS} {K:Nat},K∈ks→(s.tQ ks).free K
 |k::ks,s,K,h=>by
  rcases List.mem_cons.1 h with rfl|h
  ·exact AX (s:=s.lJ K) (EO s K)
  ·exact AY (s:=s.lJ k) h
def LS.vW (s:LS):List Nat→LS
 | []=>s
 |k::ks=>(LS.mk s.ts (cH k s.bs)).vW ks
theorem vV:∀{ks:List Nat} {s:LS} {k:Nat} {b:Bx},lk k (s.vW ks).bs=some b→k∉ks∧lk k s.bs=some b
 | [],_,_,b,h=>⟨fun hc=>(by cases hc),h⟩
 |K::ks,s,k,b,h=>by
  obtain ⟨h1,h2⟩:=vV (ks:=ks) (s:=LS.mk s.ts (cH K s.bs)) h;have h2:lk k (cH K s.bs)=some b:=h2;rw[er] at h2;split at h2
  ·cases h2
  ·rename_i hne;exact ⟨fun hc=>(List.mem_cons.1 hc).elim hne h1,h2⟩
theorem Bj:∀{ks:List Nat} {s:LS} {k:Nat} {b:Bx},k∉ks→lk k s.bs=some b→lk k (s.vW ks).bs=some b
 | [],_,_,_,_,h=>h
 |K::ks,s,k,b,hk,h=>Bj (ks:=ks) (s:=LS.mk s.ts (cH K s.bs)) (fun hc=>hk (List.mem_cons_of_mem _ hc)) (by
  show lk k (cH K s.bs)=some b;rw[er,if_neg (fun (e:k=K)=>hk (by rw[e];exact List.mem_cons_self))];exact h)
theorem E2:∀{ks:List Nat} {s:LS},(s.vW ks).ts=s.ts
 | [],_=>rfl
 |K::ks,s=>E2 (ks:=ks) (s:=LS.mk s.ts (cH K s.bs))
def LS.oQ (s:LS) (ps rs:bw):LS:=(s.vW (ps.map (·.1))).tQ (rs.map (·.1))
theorem W6 (ps rs:bw) {s:LS} (r:Rel B F g φ s tm.get h):Rel B F g φ (s.oQ ps rs) tm.get h:=
 ER _ (r.less ⟨fun t y hy=>.inr ⟨y,by rw[E2] at hy;exact hy,WV.refl y⟩,fun k b hb=>⟨b,(vV hb).2,WB.refl b⟩⟩)
theorem jG {ps rs:bw} {s:LS} {k:Nat} {b:Bx} (h:lk k (s.oQ ps rs).bs=some b):k∉(ps++rs).map (·.1)∧∃b0,lk k s.bs=some b0:=by
 obtain ⟨h1,b0,h2⟩:=Ka h;obtain ⟨h3,h4⟩:=vV h2;rw[List.map_append];exact ⟨fun hc=>(List.mem_append.1 hc).elim h3 h1,b0,h4⟩
theorem W7 {ps rs:bw} {s:LS} {k:Nat} {b:Bx} (hk:k∉(ps++rs).map (·.1)) (h:lk k s.bs=some b):∃b',lk k (s.oQ ps rs).bs=some b':=by
 rw[List.map_append] at hk;exact ES (fun hc=>hk (List.mem_append_right _ hc)) (Bj (fun hc=>hk (List.mem_append_left _ hc)) h)
theorem AZ {ps rs:bw} {s:LS} {q:Nat×Nat} (hq:q∈rs):(s.oQ ps rs).free q.1:=AY (List.mem_map.2 ⟨q,hq,rfl⟩)
theorem lZ {n x:Nat}:∀{l acc:List Nat},x∈below n l acc→x∈acc∨(x∈l∧x<n)
 | [],_,hx=>.inl hx
 |y::l,acc,hx=>by
  have hx:x∈sel (Nat.ble (Nat.succ y) n) (below n l (y::acc)) (below n l acc):=hx;rw[aC] at hx;split at hx
  ·rename_i hlt;rcases lZ hx with c|c
   ·rcases List.mem_cons.1 c with rfl|c
    ·exact .inr ⟨by simp,Nat.le_of_ble_eq_true hlt⟩
    ·exact .inl c
   ·exact .inr ⟨List.mem_cons_of_mem _ c.1,c.2⟩
  ·rcases lZ hx with c|c
   ·exact .inl c
   ·exact .inr ⟨List.mem_cons_of_mem _ c.1,c.2⟩
theorem DR.call (D:DR B base W cur nc vs laid pp g φ Fs lim tm.get h) {d:Option Nat} {m f:Nat} {st:LS} {ps rs:bw} {bs bs' ob:List (Nat×Bx)} {xs:List AV} {y:AV} {aa:List SV} (fG:cur<W) (hst:vs[nc]? =some st) (hg:oT (ps++rs)=true) (hps:oI st.bs (ps++rs) ps=some bs) (hkb:oO st.bs ps ps=true) (hkx:eT ps (cI xs)=true) (has:VAs (Fs nc) g aa xs)
  (hrs:∀q∈rs,st.free q.1∧B.pk q.1=false∧lk q.1 st.bs=none) (hc:bC E f bs (ir (fiP (ps++rs)) xs) y bs') (hob:tD bs' (ps++rs) (ps++rs)=some ob) (hko:oM bs' (ps++rs) (ps++rs)=true) (hky:eT (j8 (ps++rs)) (bW y)=true)
  (nC:∀k j,k∈ps.map (·.1)→(k,j)∈laid→dC m j=true) (se:∀q∈pp,xV nc m [] (ps.map (·.1)) true false q.2):
  ∃v h2,bz E (.call (.fn (.func f) [] []) aa ⟨fF m (pp.map (·.1)) h.hp,h.nx,[]⟩) (.bN [⟨false,v,h2⟩])∧cT m ⟨cur,true,[],below h.nx h2.lg [],h.nx,h2.nx⟩ (pp.map (·.1))=true∧
   ∃g' φ' Fs' Dx,DR B base W (cur+1) (nc+1) ((vs.map fun s=>(s.oQ ps rs).aY d .undef)++ [LS.aY ⟨st.ts,ob++st.bs⟩ d (kP (foP (ps++rs)) y)]) laid ((⟨cur,true,[],below h.nx h2.lg [],h.nx,h2.nx⟩,⟨cur,nc+1,[],ps.map (·.1),false⟩)::pp) g' φ' Fs' Dx (aY tm d v).get ⟨eh m h.hp (pp.map (·.1)) h2.hp,h2.nx,below h.nx h2.lg h.lg⟩:=by
 have rt:=D.r nc st hst;have hpm:∀{K k b},(K,k)∈ps→lk K st.bs=some b→K∈ps.map (·.1):=fun h1 _=>List.mem_map.2 ⟨_,h1,rfl⟩
 have QK:∀x,Hid m (pp.map (·.1)) x→∃q∈pp,dC m q.2.i=false∧q.2.n=0∧x=base+q.2.i∧q.2.i<cur:=fun x ⟨p,hp,h1,h2⟩=>by
  obtain ⟨q,hq,rfl⟩:=List.mem_map.1 hp;obtain ⟨p1,p2,p3,p4,p5⟩:=D.pi q hq;rw[p1] at h1;have hn:q.2.n=0:=by
   rcases se q hq with c|⟨c,_⟩
   ·rw[h1] at c;cases c
   ·exact Classical.byContradiction fun hn=>by have:=(c hn).1;omega
  exact ⟨q,hq,h1,hn,by rw[←h2];exact (p4 hn).2.1,p2⟩
 have oj:=D.lm nc st hst;have hnoH:∀{K k b},(K,k)∈ps→lk K st.bs=some b→∀i∈φ K,¬Hid m (pp.map (·.1)) i:=fun {K k b} h1 h2 i hi hc=>by
  obtain ⟨q,hq,b1,b2,b3,b4⟩:=QK i hc;rcases D.bb nc st hst K b h2 i hi with c|c|⟨j,c1,c2,c3⟩
  ·omega
  ·omega
  ·have e:j=q.2.i:=by omega
   have:=nC K j (hpm h1 h2) c1;rw[e,b1] at this;cases this
 obtain ⟨F',g2,φ2,h1,v,go,hv,hr,hF,hFn,hnx1,hlg1,hφn,hgs,Qt,hold⟩:=rt.call (hh:=⟨fF m (pp.map (·.1)) h.hp,h.nx,[]⟩) (Hd:=Hid m (pp.map (·.1))) (fun x hx=>(eB _ _ x).2 hx) (fun x hx=>by
  obtain ⟨q,hq,b1,b2,b3,b4⟩:=QK x hx;refine ⟨(eB _ _ x).1 hx,?_,?_,fun K k b m1 m2 hi=>hnoH m1 m2 x hi hx⟩
  ·cases hf:Fs nc x with
   |none=>rfl
   |some o=>rcases D.fb nc st hst x o hf with c|c<;>omega
  ·show x<h.nx;have:=D.hx;omega) rfl hg hps hkb hkx has hrs hc hob hko hky
 have hnx1:h.nx≤h1.nx:=hnx1;generalize hh2:(⟨h1.hp,h1.nx,below h.nx h1.lg []⟩:Hs)=h2 at go;have e1:h2.hp=h1.hp:=by rw[←hh2]
 have e2:h2.nx=h1.nx:=by rw[←hh2]
 have e3:h2.lg=below h.nx h1.lg []:=by rw[←hh2]
 have hwr:∀id∈below h.nx h2.lg [],id<h.nx∧∃k∈ps.map (·.1),∃b,lk k st.bs=some b∧id∈φ k:=fun id hid=>by
  rcases lZ hid with c|⟨c1,c2⟩
  ·cases c
  ·rw[e3] at c1;rcases lZ c1 with c|⟨c3,_⟩
   ·cases c
   ·obtain ⟨K,k,b,d1,d2,d3⟩:=hlg1 id c3 c2;exact ⟨c2,K,hpm d1 d2,b,d2,d3⟩
 have Pr:=hr ⟨eh m h.hp (pp.map (·.1)) h2.hp,h2.nx,below h.nx h2.lg h.lg⟩ (fun x hx=>((iG _ _ x).2 hx).trans (by rw[e1])) (fun x hx=>(iG _ _ x).1 hx) e2 (fun x hx=>by
  rcases lZ hx with c|⟨c1,c2⟩
  ·exact .inl c
  ·rw[e3] at c1;rcases lZ c1 with c|⟨c3,_⟩
   ·cases c
   ·exact .inr ⟨c3,c2⟩)
 generalize hh':(⟨eh m h.hp (pp.map (·.1)) h2.hp,h2.nx,below h.nx h2.lg h.lg⟩:Hs)=h' at*
 have nx':h'.nx=h1.nx:=by rw[←hh',←e2]
 have jE:∀x,x<h.nx→(∀K k b,(K,k)∈ps→lk K st.bs=some b→x∉φ K)→h'.hp.get x=h.hp.get x:=fun x hx hno=>by
  rw[←hh'];show (eh m h.hp (pp.map (·.1)) h2.hp).get x=_
  by_cases c:Hid m (pp.map (·.1)) x
  ·exact (iG _ _ x).1 c
  ·rw[(iG _ _ x).2 c,e1,hold x hx hno];exact (eB _ _ x).2 c
 let Fs':Nat→Hf:=fun j=>if j=nc+1 then F' else Fs j
 let Dx:Nat→Nat:=fun j=>if j=nc+1 then h1.nx else lim j
 have Fo:∀{j},j≤nc→Fs' j=Fs j:=fun {j} hj=>if_neg (by omega)
 have Fn:Fs' (nc+1)=F':=if_pos rfl;have lo:∀{j},j≤nc→Dx j=lim j:=fun {j} hj=>if_neg (by omega)
 have ln:Dx (nc+1)=h1.nx:=if_pos rfl;generalize hvs:(vs.map fun s=>(s.oQ ps rs).aY d .undef)++ [LS.aY ⟨st.ts,ob++st.bs⟩ d (kP (foP (ps++rs)) y)]=vs2
 have view:∀{j:Nat} {s':LS},vs2[j]? =some s'→(j≤nc∧∃s,vs[j]? =some s∧s'=(s.oQ ps rs).aY d .undef)∨(j=nc+1∧s'=LS.aY ⟨st.ts,ob++st.bs⟩ d (kP (foP (ps++rs)) y)):=fun {j s'} hj=>by
  rw[←hvs,List.getElem?_append] at hj;split at hj
  ·rename_i hlt;rw[List.length_map,D.top] at hlt;rw[List.getElem?_map] at hj;obtain ⟨s,hs,rfl⟩:=Option.map_eq_some_iff.1 hj;exact .inl ⟨by omega,s,hs,rfl⟩
  ·rename_i hlt;rw[List.length_map,D.top] at hlt hj;have:j-(nc+1)=0:=by
    have:=(List.getElem?_eq_some_iff.1 hj).1;simp at this;omega
   rw[this] at hj;cases hj;exact .inr ⟨by omega,rfl⟩
 have Qr:∀{j:Nat} {s:LS} {k:Nat} {b:Bx},vs[j]? =some s→lk k s.bs=some b→∃b',lk k st.bs=some b':=fun {j s k b} hj hb=>by
  have hle:j≤nc:=by have:=(List.getElem?_eq_some_iff.1 hj).1;rw[D.top] at this;omega
  exact (D.up j nc s st hle hj hst).2 k b hb
 have nal:∀{K:Nat},K∉(ps++rs).map (·.1)→lk K (ps++rs)=none:=fun {K} hK=>by
  cases hl:lk K (ps++rs) with
  |none=>rfl
  |some k=>exact absurd (List.mem_map.2 ⟨_,nP hl,rfl⟩) hK
 have RG:∀{j:Nat} {s:LS} {k:Nat} {b:Bx} {i:Nat},vs[j]? =some s→k∉(ps++rs).map (·.1)→lk k s.bs=some b→i∈φ k→i<h.nx∧∀K k' b',(K,k')∈ps→lk K st.bs=some b'→i∉φ K:=fun {j s k b i} hj hk hb hi=>by
  obtain ⟨b1,hb1⟩:=Qr hj hb;refine ⟨rt.lt hb1 i hi,fun K k' b' m1 m2 hc=>rt.dj k K b1 b' hb1 m2 (fun e=>hk ?_) i hi hc⟩
  rw[e];exact List.mem_map.2 ⟨_,List.mem_append_left _ m1,rfl⟩
 have OZ:∀{k b},lk k (ob++st.bs)=some b→∀i∈φ2 k,(i<h.nx∧∃b,lk k st.bs=some b∧i∈φ k)∨h.nx≤i:=fun hb i hi=>hφn _ _ hb i hi
 have r2:∀(j:Nat) (s':LS),vs2[j]? =some s'→Rel B (Fs' j) g2 φ2 s' (aY tm d v).get h':=fun j s' hj=>by
  rcases view hj with ⟨hle,s,hs,rfl⟩|⟨rfl,rfl⟩
  ·rw[Fo hle];refine Rel.aY ?_ (fun hc=>absurd rfl hc)
   refine (W6 ps rs (D.r j s hs)).RG Pr (fun id o ho=> ?_) (fun k b hb i hi=> ?_) (fun k b hb=>Qt k (nal (jG hb).1)) (fun t y hy=> ?_) fun k b hb=>⟨?_,?_⟩
   ·have hot:=(D.up j nc s st hle hs hst).1 id o ho;exact jE id (rt.flt hot) fun K k b m1 m2 hi=>by rw[rt.nf K b m2 id hi] at hot;cases hot
   ·obtain ⟨c1,b0,c2⟩:=jG hb;obtain ⟨d1,d2⟩:=RG hs c1 c2 hi;exact jE i d1 d2
   ·exact hgs _ fun q hq hc=>(AZ (ps:=ps) (s:=s) hq).1 t y hy hc
   ·exact hgs _ fun q hq hc=>(jG hb).1 (by rw[←List.mem_singleton.1 hc];exact List.mem_map.2 ⟨q,List.mem_append_right _ hq,rfl⟩)
   ·exact hgs _ fun q hq hc=>(AZ (ps:=ps) (s:=s) hq).2 k b (fun e=>(jG hb).1 (by rw[e];exact List.mem_map.2 ⟨q,List.mem_append_right _ hq,rfl⟩)) hb hc
  ·rw[Fn];exact Pr.aY fun _=>hv
 refine ⟨v,h2,go,?_,g2,φ2,Fs',Dx,?_⟩
 ·refine D.indep (rk:= []) (wk:=ps.map (·.1)) (wn:=false) fG hst (fun id hid=>by cases hid) (fun id hid=>(hwr id hid).2) (fun id h3 h4=>.inr h3) (fun k j hk=>by
   rcases hk with c|c
   ·cases c
   ·exact nC k j c) (fun hc=>by cases hc) se
 rw[hh'];refine ⟨r2,fun j j' s s' hjj hj hj'=> ?_,fun j s' hj id o ho=> ?_,fun j s' hj k b hb i hi=> ?_,fun j s' hj=> ?_,by rw[←hvs,List.length_append,List.length_map,D.top];rfl,(by rw[nx'];have:=D.hx;omega),fun q hq hq'=> ?_,D.bn,fun q hq=> ?_,fun q hq id hid=> ?_,fun q hq j s' hj k b hb i hi=> ?_,fun q hq i hi j s' hj=> ?_,fun q hq hn=> ?_⟩
 ·rcases view hj with ⟨a1,s0,a2,rfl⟩|⟨rfl,rfl⟩
  ·rcases view hj' with ⟨b1,s0',b2,rfl⟩|⟨rfl,rfl⟩
   ·rw[Fo a1,Fo b1];obtain ⟨u1,u2⟩:=D.up j j' s0 s0' hjj a2 b2;refine ⟨u1,fun k b hb=> ?_⟩
    rw[fB] at hb ⊢;obtain ⟨c1,b0,c2⟩:=jG hb;obtain ⟨b3,c3⟩:=u2 k b0 c2;exact W7 c1 c3
   ·rw[Fo a1,Fn];refine ⟨(D.up j nc s0 st a1 a2 hst).1.trans hF,fun k b hb=> ?_⟩
    rw[fB] at hb ⊢;obtain ⟨c1,b0,c2⟩:=jG hb;obtain ⟨b3,c3⟩:=Qr a2 c2;show ∃b',lk k (ob++st.bs)=some b';rw[vy,c3];cases lk k ob with
    |none=>exact ⟨_,rfl⟩
    |some b4=>exact ⟨_,rfl⟩
  ·rcases view hj' with ⟨b1,s0',b2,rfl⟩|⟨rfl,rfl⟩
   ·omega
   ·exact ⟨Hle.refl _,fun k b hb=>⟨b,hb⟩⟩
 ·rcases view hj with ⟨a1,s0,a2,rfl⟩|⟨rfl,rfl⟩
  ·rw[Fo a1] at ho;rw[lo a1];exact D.fb j s0 a2 id o ho
  ·rw[Fn] at ho;rw[ln];rcases hFn id o ho with c|c
   ·rcases D.fb nc st hst id o c with d|d
    ·exact .inl d
    ·exact .inr (by omega)
   ·have:=Pr.flt ho;rw[nx'] at this;have:=D.hx;exact .inr (by omega)
 ·rcases view hj with ⟨a1,s0,a2,rfl⟩|⟨rfl,rfl⟩
  ·rw[lo a1];rw[fB] at hb;obtain ⟨c1,b0,c2⟩:=jG hb;rw[Qt k (nal c1)] at hi;rcases D.bb j s0 a2 k b0 c2 i hi with c|c|⟨q,c1,c2,c3⟩
   ·exact .inl c
   ·exact .inr (.inl c)
   ·exact .inr (.inr ⟨q,c1,by omega,c3⟩)
  ·rw[ln];rw[fB] at hb;rcases OZ hb i hi with ⟨c1,b0,c2,c3⟩|c
   ·rcases D.bb nc st hst k b0 c2 i c3 with c|c|⟨q,c4,c5,c6⟩
    ·exact .inl c
    ·exact .inr (.inl (by omega))
    ·exact .inr (.inr ⟨q,c4,by omega,c6⟩)
   ·have:=Pr.lt hb i hi;rw[nx'] at this;have:=D.hx;exact .inr (.inl (by omega))
 ·rw[nx'];rcases view hj with ⟨a1,s0,a2,rfl⟩|⟨rfl,rfl⟩
  ·rw[lo a1];have:=D.lm j s0 a2;omega
  ·rw[ln];have:=D.hx;omega
 ·have hq0:h.hp.get (base+q)=none:=D.em q (by omega) hq'
  rw[jE (base+q) (by have:=D.hx;omega) fun K k b m1 m2 hc=>(rt.bx K b m2).there _ hc hq0]
  exact hq0
 ·rcases List.mem_cons.1 hq with rfl|hq
  ·refine ⟨rfl,Nat.lt_succ_self _,Nat.le_refl _,fun hc=>(by cases hc),fun _=>⟨rfl,D.hx,?_,fun j s' hj hlt=> ?_⟩⟩
   ·rw[nx'];exact Nat.le_of_eq e2
   ·rcases view hj with ⟨a1,s0,a2,rfl⟩|⟨rfl,rfl⟩
    ·rw[lo a1];exact (D.lm j s0 a2).2
    ·have hlt:nc+1<nc+1:=hlt;omega
  ·obtain ⟨p1,p2,p3,p4,p5⟩:=D.pi q hq;refine ⟨p1,by omega,by omega,p4,fun hn=> ?_⟩
   obtain ⟨a1,a2,a3,a4⟩:=p5 hn;refine ⟨a1,a2,by rw[nx'];omega,fun j s' hj hlt=> ?_⟩
   rcases view hj with ⟨c1,s0,c2,rfl⟩|⟨rfl,rfl⟩
   ·rw[lo c1];exact a4 j s0 c2 hlt
   ·omega
 ·rw[nx'];rcases List.mem_cons.1 hq with rfl|hq
  ·rcases hid with c|c
   ·cases c
   ·obtain ⟨c0,k,_,b,c1,c2⟩:=hwr id c;rcases D.bb nc st hst k b c1 id c2 with d|d|⟨q,d1,d2,d3⟩
    ·exact .inl d
    ·exact .inr (.inl (by omega))
    ·exact .inr (.inr ⟨q,(show q≤cur by omega),d3⟩)
  ·rcases D.po q hq id hid with c|c|c
   ·exact .inl c
   ·exact .inr (.inl (by omega))
   ·exact .inr (.inr c)
 ·rcases List.mem_cons.1 hq with rfl|hq
  ·refine ⟨fun hc=>(by cases hc),fun hc=> ?_⟩
   obtain ⟨c0,k0,hk0,b0,c1,c2⟩:=hwr i hc;rcases view hj with ⟨a1,s0,a2,rfl⟩|⟨rfl,rfl⟩
   ·rw[fB] at hb;obtain ⟨d1,b1,d2⟩:=jG hb;rw[Qt k (nal d1)] at hi;obtain ⟨b2,d3⟩:=Qr a2 d2;have e:k=k0:=Classical.byContradiction fun hne=>rt.dj k k0 b2 b0 d3 c1 hne i hi c2
    rw[e];exact hk0
   ·rw[fB] at hb;rcases OZ hb i hi with ⟨_,b1,d2,d3⟩|d
    ·have e:k=k0:=Classical.byContradiction fun hne=>rt.dj k k0 b1 b0 d2 c1 hne i d3 c2
     rw[e];exact hk0
    ·omega
  ·rcases view hj with ⟨a1,s0,a2,rfl⟩|⟨rfl,rfl⟩
   ·rw[fB] at hb;obtain ⟨d1,b1,d2⟩:=jG hb;rw[Qt k (nal d1)] at hi;exact D.pr q hq j s0 a2 k b1 d2 i hi
   ·rw[fB] at hb;rcases OZ hb i hi with ⟨_,b1,d2,d3⟩|dge
    ·exact D.pr q hq nc st hst k b1 d2 i d3
    ·have hno:¬(i∈q.1.rd∨i∈q.1.wr):=fun hc=>by
      have:=D.hx;obtain ⟨_,p2,_⟩:=D.pi q hq;rcases D.po q hq i hc with d|d|⟨j',d1,d2⟩<;>omega
     exact ⟨fun hc=>absurd (.inl hc) hno,fun hc=>absurd (.inr hc) hno⟩
 ·rcases List.mem_cons.1 hq with rfl|hq
  ·obtain ⟨c0,k0,hk0,b0,c1,c2⟩:=hwr i hi;rcases view hj with ⟨a1,s0,a2,rfl⟩|⟨rfl,rfl⟩
   ·rw[Fo a1];cases hf:Fs j i with
    |none=>rfl
    |some o=>
     have:=(D.up j nc s0 st a1 a2 hst).1 i o hf;rw[rt.nf k0 b0 c1 i c2] at this;cases this
   ·rw[Fn];cases hf:F' i with
    |none=>rfl
    |some o=>
     rcases hFn i o hf with c|c
     ·rw[rt.nf k0 b0 c1 i c2] at c;cases c
     ·omega
  ·rcases view hj with ⟨a1,s0,a2,rfl⟩|⟨rfl,rfl⟩
   ·rw[Fo a1];exact D.pf q hq i hi j s0 a2
   ·rw[Fn];cases hf:F' i with
    |none=>rfl
    |some o=>
     rcases hFn i o hf with c|c
     ·rw[D.pf q hq i hi nc st hst] at c;cases c
     ·have:=D.hx;obtain ⟨_,p2,_⟩:=D.pi q hq;rcases D.po q hq i (.inr hi) with d|d|⟨j',d1,d2⟩<;>omega
 ·rcases List.mem_cons.1 hq with rfl|hq
  ·cases hn
  ·exact D.pw q hq hn
end
end Go.Sim
end
