/- Texts that belong together. The first: Drawn regions: the machine's steps; a view that does not see an operation. -/
import Derived.Test.YtmealahmjddpcaaGreatDoorP5
set_option linter.all false
noncomputable section
namespace Go.Sim
section
variable {F F':Hf} {g g':Gb} {B:Bs} {φ:Nat->List Nat} {s s' s1:LS} {tm:Tf} {h:Hs} {hp:Hf} {E:Env} {nt:Nat}
def cE (W M:Nat) (o:Oper):Nat:=Nat.mod (fF W M (dN o)) (Nat.pow 2 W)
def mi (W M i m:Nat):Nat:=Nat.lor M (Nat.shiftLeft m (Nat.mul i W))
theorem bw.aeR {W base i M:Nat} {all:List Oper} {prev:List Rc} {tm:Tr SV}:bw E (.draw nt W all base i M prev [] tm h) (.st tm h):=.step ⟨0,fun _ _=>rfl⟩
theorem wI {W base i M:Nat} {all l:List Oper} {o:Oper} {prev:List Rc} {tm:Tr SV} {rec:Job->Out} (hd:(cK nt o.dst&&gq i (dN o))=true) {w:Bool} (hw:cg all o tm.get=some w):step E rec (.draw nt W all base i M prev (o::l) tm h)=sel w (doD E rec nt W all base i M (cE W M o) prev l tm h o (dB o.op)) (js rec nt W all base i M (cE W M o) prev l tm o.dst ⟨i,false,[],[],Nat.add base i,Nat.add (Nat.add base i) 1⟩ (.tup []) h):=by
 show sel (cK nt o.dst && gq i (dN o)) (force (Nat.mod (fF W M (dN o)) (Nat.pow 2 W)) fun m=>FV E rec nt W all base i M m prev l tm h o (cg all o tm.get)) (.fail "slot")=_
 rw[hd,force_eq,hw];rfl
theorem zS {rec:Job->Out} {W base i M m:Nat} {all l:List Oper} {prev:List Rc} {tm:Tr SV} {d:Option Nat} {rc:Rc} {v:SV} (hi:cX m rc prev=true):js rec nt W all base i M m prev l tm d rc v h=rec (.draw nt W all base (i+1) (mi W M i m) (rc::prev) l (bB tm d v) h):=by
 show sel (cX m rc prev) (force (mi W M i m) fun M'=>rec (.draw nt W all base (Nat.add i 1) M' (rc::prev) l (bB tm d v) h)) (.fail "order")=_
 rw[hi,force_eq]
variable {W base i M:Nat} {all l:List Oper} {o:Oper} {prev:List Rc} {tmr:Tr SV} {out:Out}
theorem bw.ZV (hd:(cK nt o.dst&&gq i (dN o))=true) (hw:cg all o tmr.get=some false) (hi:cX (cE W M o) ⟨i,false,[],[],base+i,base+i+1⟩ prev=true)
  (ha:bw E (.draw nt W all base (i+1) (mi W M i (cE W M o)) (⟨i,false,[],[],base+i,base+i+1⟩::prev) l (bB tmr o.dst (.tup [])) h) out):bw E (.draw nt W all base i M prev (o::l) tmr h) out:=by
 obtain ⟨n1,e1⟩:=ha;refine .step ⟨n1,fun n hn=> ?_⟩
 rw[wI hd hw];show js (run E n) nt W all base i M (cE W M o) prev l tmr o.dst ⟨i,false,[],[],base+i,base+i+1⟩ (.tup []) h=_;rw[zS hi];exact e1 n hn
theorem bw.aeQ {v:SV} {us:List Up} (hd:(cK nt o.dst&&gq i (dN o))=true) (hw:cg all o tmr.get=some true) (hc:dB o.op=none) (hv:opA E o.op tmr.get h.hp.get (base+i)=some (v,us)) (hi:cX (cE W M o) ⟨i,false,eC o.op tmr.get,gE (base+i) us,base+i,base+i+1⟩ prev=true)
  (ha:bw E (.draw nt W all base (i+1) (mi W M i (cE W M o)) (⟨i,false,eC o.op tmr.get,gE (base+i) us,base+i,base+i+1⟩::prev) l (bB tmr o.dst v) (h.ups us)) out):bw E (.draw nt W all base i M prev (o::l) tmr h) out:=by
 obtain ⟨n1,e1⟩:=ha;refine .step ⟨n1,fun n hn=> ?_⟩
 rw[wI hd hw,hc];show P4 (run E n) nt W all base i M (cE W M o) prev l tmr h o (opA E o.op tmr.get h.hp.get (base+i))=_;rw[hv];show js (run E n) nt W all base i M (cE W M o) prev l tmr o.dst ⟨i,false,eC o.op tmr.get,gE (base+i) us,base+i,base+i+1⟩ v (h.ups us)=_;rw[zS hi];exact e1 n hn
theorem bw.ZY {c:Call} {f:SV} {aa:List SV} {v:SV} {h2:Hs} (hd:(cK nt o.dst&&gq i (dN o))=true) (hw:cg all o tmr.get=some true) (hc:dB o.op=some c) (hf:ig tmr.get c.callee=some f) (has:bT tmr.get c.args.toList=some aa)
  (hv:bw E (.call f aa ⟨jx (cE W M o) prev h.hp,h.nx,[]⟩) (.cI [⟨false,v,h2⟩])) (hi:cX (cE W M o) ⟨i,true,[],below h.nx h2.lg [],h.nx,h2.nx⟩ prev=true)
  (ha:bw E (.draw nt W all base (i+1) (mi W M i (cE W M o)) (⟨i,true,[],below h.nx h2.lg [],h.nx,h2.nx⟩::prev) l (bB tmr o.dst v) ⟨dZ (cE W M o) h.hp prev h2.hp,h2.nx,below h.nx h2.lg h.lg⟩) out):bw E (.draw nt W all base i M prev (o::l) tmr h) out:=by
 obtain ⟨n1,e1⟩:=ha;obtain ⟨n2,e2⟩:=hv;refine .step ⟨n1+n2,fun n hn=> ?_⟩
 rw[wI hd hw,hc];show RD (run E n) ⟨jx (cE W M o) prev h.hp,h.nx,[]⟩ (ig tmr.get c.callee) (bT tmr.get c.args.toList) (fun v h2=>js (run E n) nt W all base i M (cE W M o) prev l tmr o.dst ⟨i,true,[],below h.nx h2.lg [],h.nx,h2.nx⟩ v ⟨dZ (cE W M o) h.hp prev h2.hp,h2.nx,below h.nx h2.lg h.lg⟩) _=_
 rw[hf,has];show DF (run E n (.call f aa ⟨jx (cE W M o) prev h.hp,h.nx,[]⟩)) (fun v h2=>js (run E n) nt W all base i M (cE W M o) prev l tmr o.dst ⟨i,true,[],below h.nx h2.lg [],h.nx,h2.nx⟩ v ⟨dZ (cE W M o) h.hp prev h2.hp,h2.nx,below h.nx h2.lg h.lg⟩) (fun _ _=>.fail "panic in a drawn region")=_
 rw[e2 n (by omega)]
 show js (run E n) nt W all base i M (cE W M o) prev l tmr o.dst ⟨i,true,[],below h.nx h2.lg [],h.nx,h2.nx⟩ v ⟨dZ (cE W M o) h.hp prev h2.hp,h2.nx,below h.nx h2.lg h.lg⟩=_;rw[zS hi];exact e1 n (by omega)
theorem tI:∀(us:List Up) {x:Nat},(∀u∈us,u.1≠x)->∀h:Hs,(h.ups us).hp.get x=h.hp.get x
 | [],_,_,h=>rfl
 |u::us,x,hu,h=>by
  show ((h.up u).ups us).hp.get x=_;rw[tI us (fun v hv=>hu v (List.mem_cons_of_mem _ hv)) (h.up u)]
  show (h.hp.set u.1 u.2).get x=_;rw[Tr.dv,if_neg (Ne.symm (hu u List.mem_cons_self))]
def LS.lN (s:LS) (K:Nat):LS:=⟨(s.cZ K).ts,bE K (s.cZ K).bs⟩
def LS.oT (s:LS) (W:WK):LS:=match W with|none=>s|some q=>s.lN q.1
theorem aeM {K t:Nat} {y:AV} (h:lk t (s.lN K).ts=some y):∃x,lk t s.ts=some x/\y=gn K x:=by
 rw[show (s.lN K).ts=s.ts.map fun p=>(p.1,gn K p.2) from rfl,gT] at h
 obtain ⟨x,hx,rfl⟩:=Option.map_eq_some_iff.1 h;exact ⟨x,hx,rfl⟩
theorem D5 {K k:Nat} {b:Bx} (h:lk k (s.lN K).bs=some b):k≠K/\∃b0,lk k s.bs=some b0/\b=b0.cZ K:=by
 rw[show (s.lN K).bs=bE K (s.bs.map fun p=>(p.1,p.2.cZ K)) from rfl,du] at h
 split at h
 ·cases h
 ·rename_i hne;rw[gT] at h;obtain ⟨b0,h0,rfl⟩:=Option.map_eq_some_iff.1 h;exact ⟨hne,b0,h0,rfl⟩
theorem Lj (r:Rel B F g φ s tm h) (K:Nat):Rel B F g φ (s.lN K) tm h:=by
 have r1:=Ab r K;refine r1.less ⟨fun t y hy=>.inr ⟨y,hy,WV.refl y⟩,fun k b hb=> ?_⟩
 rw[show (s.lN K).bs=bE K (s.cZ K).bs from rfl,du] at hb;split at hb
 ·cases hb
 ·exact ⟨b,hb,WB.refl b⟩
theorem Fe (s:LS) (K:Nat):(s.lN K).free K:=by
 obtain ⟨h1,h2⟩:=Fj s K;refine ⟨h1,fun k b hne hb=>h2 k b hne ?_⟩
 rw[show (s.lN K).bs=bE K (s.cZ K).bs from rfl,du,if_neg hne] at hb;exact hb
theorem Rel.Su (r:Rel B F g φ s tm h) {F2:Hf} {g2:Gb} {φ2:Nat->List Nat} {s2:LS} {h':Hs} {tm2:Tf} (r2:Rel B F2 g2 φ2 s2 tm2 h') (hF:∀id o,F id=some o->h'.hp.get id=h.hp.get id) (hb:∀k b,lk k s.bs=some b->∀i∈φ k,h'.hp.get i=h.hp.get i) (hφ:∀k b,lk k s.bs=some b->φ2 k=φ k)
  (hgt:∀t x,lk t s.ts=some x->fT g g2 (bV x)) (hgb:∀k b,lk k s.bs=some b->fT g g2 [k]/\fT g g2 b.keys):Rel B F g2 φ2 s tm h':=by
 refine ⟨fun t x hx hn=> ?_,fun k b hk=> ?_,fun k k' b b' hk hk' hne i hi=> ?_,fun k b hk i hi=> ?_,fun i o ho=>(hF i o ho).trans (r.sub i o ho),r2.bd,r2.nx,r2.old,r.f0,r.fn,fun k b hk i hi=> ?_,r2.lg,r2.pin⟩
 ·obtain ⟨v,v1,v2⟩:=r.tm t x hx hn;exact ⟨v,v1,v2.gb (hgt t x hx)⟩
 ·rw[hφ k b hk];exact ((r.bx k b hk).fL (Hle.refl F) fun i hi=>hb k b hk i hi).gb (hgb k b hk).1 (hgb k b hk).2
 ·rw[hφ k b hk] at hi;rw[hφ k' b' hk'];exact r.dj k k' b b' hk hk' hne i hi
 ·rw[hφ k b hk] at hi;exact r.nf k b hk i hi
 ·rw[hφ k b hk] at hi;exact r.gJ k b hk i hi
end
section
variable {F F':Hf} {g g':Gb} {B:Bs} {φ:Nat->List Nat} {s s' s1:LS} {tm:Tf} {h:Hs} {hp:Hf} {E:Env} {nt:Nat}
theorem sV {lo hi:Nat}:∀{l:List Nat},(∀x∈l,x<lo\/hi<=x)->jr lo hi l=true
 | [],_=>rfl
 |x::l,h=>by
  have ih:=sV (lo:=lo) (hi:=hi) (l:=l) fun y hy=>h y (List.mem_cons_of_mem _ hy)
  show sel (Nat.ble (Nat.succ x) lo) (jr lo hi l) (sel (Nat.ble hi x) (jr lo hi l) false)=true;rw[ih,aC,aC];rcases h x List.mem_cons_self with c|c
  ·rw[if_pos (Nat.ble_eq_true_of_le c)]
  ·rw[if_pos (Nat.ble_eq_true_of_le c)];split<;>rfl
theorem uI:∀{l m:List Nat},(∀x∈l,x∉m)->iJ l m=true
 | [],_,_=>rfl
 |x::l,m,h=>by
  show sel (eh x m) false (iJ l m)=true;rw[uI fun y hy=>h y (List.mem_cons_of_mem _ hy),aC,if_neg]
  exact fun hc=>h x List.mem_cons_self ((lI _ _).1 hc)
structure PI where
 i:Nat
 n:Nat
 rk:List Nat
 wk:List Nat
 wn:Bool
structure DR (B:Bs) (base W cur nc:Nat) (vs:List LS) (laid:bt) (pp:List (Rc×PI)) (g:Gb) (φ:Nat->List Nat) (Fs:Nat->Hf) (lim:Nat->Nat) (tm:Tf) (h:Hs):Prop where
 r:∀(j:Nat) (s:LS),vs[j]? =some s->Rel B (Fs j) g φ s tm h
 up:∀(j j':Nat) (s s':LS),j<=j'->vs[j]? =some s->vs[j']? =some s'->Hle (Fs j) (Fs j')/\∀k b,lk k s.bs=some b->∃b',lk k s'.bs=some b'
 fb:∀(j:Nat) (s:LS),vs[j]? =some s->∀id o,Fs j id=some o->id<base\/(base+W<=id/\id<lim j)
 bb:∀(j:Nat) (s:LS),vs[j]? =some s->∀k b,lk k s.bs=some b->∀i∈φ k,i<base\/(base+W<=i/\i<lim j)\/∃q,(k,q)∈laid/\q<cur/\i=base+q
 lm:∀(j:Nat) (s:LS),vs[j]? =some s->base+W<=lim j/\lim j<=h.nx
 top:vs.length=nc+1
 hx:base+W<=h.nx
 em:∀q,cur<=q->q<W->h.hp.get (base+q)=none
 bn:B.nx<=base
 pi:∀q∈pp,q.1.i=q.2.i/\q.2.i<cur/\q.2.n<=nc/\(q.2.n=0->q.1.call=false/\q.1.lo=base+q.2.i/\q.1.hi=base+q.2.i+1)/\(q.2.n≠0->q.1.call=true/\base+W<=q.1.lo/\q.1.hi<=h.nx/\∀(j:Nat) (s:LS),vs[j]? =some s->j<q.2.n->lim j<=q.1.lo)
 po:∀q∈pp,∀id,id∈q.1.rd\/id∈q.1.wr->id<base\/(base+W<=id/\id<h.nx)\/∃j,j<=q.2.i/\id=base+j
 pr:∀q∈pp,∀(j:Nat) (s:LS),vs[j]? =some s->∀k b,lk k s.bs=some b->∀i∈φ k,(i∈q.1.rd->k∈q.2.rk)/\(i∈q.1.wr->k∈q.2.wk)
 pf:∀q∈pp,∀i∈q.1.wr,∀(j:Nat) (s:LS),vs[j]? =some s->Fs j i=none
 pw:∀q∈pp,q.2.wn=true->q.1.wr= []
def yS (l m:Nat) (rk wk:List Nat) (call wn:Bool) (p:PI):Prop:=eu m p.i=true\/((p.n≠0->l<p.n/\call=false/\wn=true)/\(call=true->p.wn=true)/\(∀k∈wk,k∉p.rk/\k∉p.wk)/\∀k∈rk,k∉p.wk)
variable {base W cur nc:Nat} {vs:List LS} {laid:bt} {pp:List (Rc×PI)} {Fs:Nat->Hf} {lim:Nat->Nat}
theorem DR.indep (D:DR B base W cur nc vs laid pp g φ Fs lim tm h) {l m:Nat} {sl:LS} {rc:Rc} {rk wk:List Nat} {wn:Bool} (fB:cur<W) (hl:vs[l]? =some sl) (hrd:∀id∈rc.rd,(∃o,Fs l id=some o)\/∃k∈rk,∃b,lk k sl.bs=some b/\id∈φ k) (hwr:∀id∈rc.wr,∃k∈wk,∃b,lk k sl.bs=some b/\id∈φ k)
  (eM:∀id,rc.lo<=id->id<rc.hi->id=base+cur\/h.nx<=id) (nD:∀k j,(k∈rk\/k∈wk)->(k,j)∈laid->eu m j=true) (hwn:wn=true->rc.wr= []) (sf:∀q∈pp,yS l m rk wk rc.call wn q.2):cX m rc (pp.map (·.1))=true:=by
 have key:∀(l:List (Rc×PI)),(∀q∈l,eu m q.1.i=true\/ta q.1 rc=true)->cX m rc (l.map (·.1))=true:=fun l=>by
  induction l with
  |nil=>exact fun _=>rfl
  |cons q l ih=>
   intro hq;have ih:=ih fun p hp=>hq p (List.mem_cons_of_mem _ hp)
   show sel (eu m q.1.i) (cX m rc (l.map (·.1))) (sel (ta q.1 rc) (cX m rc (l.map (·.1))) false)=true
   rw[ih,aC,aC];rcases hq q List.mem_cons_self with c|c
   ·rw[if_pos c]
   ·rw[if_pos c];split<;>rfl
 refine key pp fun q hq=> ?_
 obtain ⟨p1,p2,p3,p4,p5⟩:=D.pi q hq;rcases sf q hq with c|⟨c1,c2,c3,c4⟩
 ·exact .inl (by rw[p1];exact c)
 by_cases hm:eu m q.2.i=true
 ·exact .inl (by rw[p1];exact hm)
 refine .inr ?_;have hoff:∀id,((∃o,Fs l id=some o)\/∃k,(k∈rk\/k∈wk)/\∃b,lk k sl.bs=some b/\id∈φ k)->id<q.1.lo\/q.1.hi<=id:=fun id hid=>by
  have ov:=D.lm l sl hl;by_cases hn:q.2.n=0
  ·obtain ⟨_,e1,e2⟩:=p4 hn;rw[e1,e2];rcases hid with ⟨o,ho⟩|⟨k,hk,b,hb,hi⟩
   ·rcases D.fb l sl hl id o ho with c|c<;>omega
   ·rcases D.bb l sl hl k b hb id hi with c|c|⟨j,j1,j2,rfl⟩
    ·omega
    ·omega
    ·have:j≠q.2.i:=fun e=>hm (by rw[<-e];exact nD k j hk j1)
     omega
  ·obtain ⟨_,e1,e2,e3⟩:=p5 hn;have e3:=e3 l sl hl (c1 hn).1;rcases hid with ⟨o,ho⟩|⟨k,hk,b,hb,hi⟩
   ·rcases D.fb l sl hl id o ho with c|c<;>omega
   ·rcases D.bb l sl hl k b hb id hi with c|c|⟨j,j1,j2,rfl⟩<;>omega
 have hold:∀id,id∈q.1.rd\/id∈q.1.wr->id<rc.lo\/rc.hi<=id:=fun id hid=>by
  by_cases h1:rc.lo<=id
  ·by_cases h2:id<rc.hi
   ·have:=D.hx;rcases eM id h1 h2 with e|e<;>rcases D.po q hq id hid with c|c|⟨j,j1,rfl⟩<;>omega
   ·exact .inr (by omega)
  ·exact .inl (by omega)
 have i1:jr q.1.lo q.1.hi rc.rd=true:=sV fun id hid=>hoff id ((hrd id hid).elim .inl fun ⟨k,hk,x⟩=>.inr ⟨k,.inl hk,x⟩)
 have i2:jr q.1.lo q.1.hi rc.wr=true:=sV fun id hid=>hoff id (by obtain ⟨k,hk,x⟩:=hwr id hid;exact .inr ⟨k,.inr hk,x⟩)
 have i3:jr rc.lo rc.hi q.1.rd=true:=sV fun id hid=>hold id (.inl hid)
 have i4:jr rc.lo rc.hi q.1.wr=true:=sV fun id hid=>hold id (.inr hid)
 have i5:iJ q.1.rd rc.wr=true:=uI fun id hid hw=>by
  obtain ⟨k,hk,b,hb,hi⟩:=hwr id hw;exact (c3 k hk).1 ((D.pr q hq l sl hl k b hb id hi).1 hid)
 have i6:iJ rc.rd q.1.wr=true:=uI fun id hid hw=>by
  rcases hrd id hid with ⟨o,ho⟩|⟨k,hk,b,hb,hi⟩
  ·rw[D.pf q hq id hw l sl hl] at ho;cases ho
  ·exact c4 k hk ((D.pr q hq l sl hl k b hb id hi).2 hw)
 have i7:iJ q.1.wr rc.wr=true:=uI fun id hid hw=>by
  obtain ⟨k,hk,b,hb,hi⟩:=hwr id hw;exact (c3 k hk).2 ((D.pr q hq l sl hl k b hb id hi).2 hid)
 have i8:sel q.1.call (sel rc.call false (mU rc.wr)) (sel rc.call (mU q.1.wr) true)=true:=by
  by_cases hn:q.2.n=0
  ·rw[(p4 hn).1];show sel rc.call (mU q.1.wr) true=true;cases hcl:rc.call with
   |false=>rfl
   |true=>show mU q.1.wr=true;rw[D.pw q hq (c2 hcl)];rfl
  ·rw[(p5 hn).1];obtain ⟨_,d1,d2⟩:=c1 hn;rw[d1,hwn d2];rfl
 show (jr q.1.lo q.1.hi rc.rd&&(jr q.1.lo q.1.hi rc.wr&&(jr rc.lo rc.hi q.1.rd&&(jr rc.lo rc.hi q.1.wr&&(iJ q.1.rd rc.wr&&(iJ rc.rd q.1.wr&&(iJ q.1.wr rc.wr&&sel q.1.call (sel rc.call false (mU rc.wr)) (sel rc.call (mU q.1.wr) true))))))))=true;rw[i1,i2,i3,i4,i5,i6,i7,i8];rfl
def F0:Op->List Operand
 | .load _ x=> [x]
 | .store _ x y=> [x,y]
 | .lookup _ x k _=> [x,k]
 | .mapUpdate _ m k x=> [m,k,x]
 | .insert _ m k x=> [m,k,x]
 | .next it _=> [it]
 | .range _ x=> [x]
 | .call c=>c.args.toList
 |_=> []
def QU (op:Op):Bool:=match op with| .call c=>ka c|_=>false
theorem QC (op:Op) (tm:Tf):eC op tm=sel (QU op) (ud tm (F0 op)) (g9 tm (F0 op)):=by cases op<;>rfl
def adi (bs:List (Nat×Bx)):AV->Option (List Nat)
 | .undef=>none
 | .loc K _=>(match lk K bs with|some (.flat _ _)=>some [K]|_=>none)
 | .el K _ _ _=>(match lk K bs with|some (.rows _ _ _ _)=>some [K]|some (.hole _ _ _ _ _)=>some [K]|some (.own _ _ _ _ _)=>some [K]|_=>none)
 | .ms K _ _ _=>(match lk K bs with|some (.rows _ _ _ _)=>some [K]|_=>none)
 | .mp K=>(match lk K bs with|some (.map _)=>some [K]|_=>none)
 | .it K=>(match lk K bs with|some (.iter _ _)=>some [K]|_=>none)
 |_=>some []
def KO (ts:List (Nat×AV)) (bs:List (Nat×Bx)):List Operand->Option (List Nat)
 | []=>some []
 |x::l=>aG (adi bs (aL ts x)) (KO ts bs l) fun a b=>some (a++b)
theorem YU (r:Rel B F g φ s tm h) {y:AV} {v:SV} {ks:List Nat} (hv:VA F g v y) (hk:adi s.bs y=some ks):∀id∈eo (some v),(∃o,F id=some o)\/∃k∈ks,∃b,lk k s.bs=some b/\id∈φ k:=by
 intro id hid;cases hv with
 |slice hF=>exact .inl (by rw[List.mem_singleton.1 hid];exact n7 hF)
 |sln hF=>exact .inl (by rw[List.mem_singleton.1 hid];exact n7 hF)
 |slf hF=>exact .inl (by rw[List.mem_singleton.1 hid];exact n7 hF)
 |slx hF=>exact .inl (by rw[List.mem_singleton.1 hid];exact n7 hF)
 |imm hF=>exact .inl (by rw[List.mem_singleton.1 hid];exact n7 hF)
 |loc K off=>
  have hk:(match lk K s.bs with|some (.flat _ _)=>some [K]|_=>none)=some ks:=hk
  split at hk
  ·rename_i hb;cases hk;refine .inr ⟨K,by simp,_,hb,?_⟩
   have q:=r.bx K _ hb;generalize φ K=fp at q ⊢;cases q with|flat=>rw[List.mem_singleton.1 hid];simp
  ·cases hk
 | @el _ K s' j f hb0=>
  have hk:(match lk K s.bs with|some (.rows _ _ _ _)=>some [K]|some (.hole _ _ _ _ _)=>some [K]|some (.own _ _ _ _ _)=>some [K]|_=>none)=some ks:=hk
  split at hk
  ·rename_i hb;cases hk;refine .inr ⟨K,by simp,_,hb,?_⟩
   have q:=r.bx K _ hb;generalize φ K=fp at q ⊢;cases q with
   |cH hb1=>rw[hb0] at hb1;cases hb1
   |rows=>rw[List.mem_singleton.1 hid];simp
  ·rename_i hb;cases hk;refine .inr ⟨K,by simp,_,hb,?_⟩
   have q:=r.bx K _ hb;generalize φ K=fp at q ⊢;cases q with
   |hole=>rw[List.mem_singleton.1 hid];simp
  ·rename_i hb;cases hk;refine .inr ⟨K,by simp,_,hb,?_⟩
   have q:=r.bx K _ hb;generalize φ K=fp at q ⊢;cases q with
   |jq hb1=>rw[hb0] at hb1;cases hb1
   |own=>rw[List.mem_singleton.1 hid];simp
  ·cases hk
 | @ms _ K s' lo n hb0=>
  have hk:(match lk K s.bs with|some (.rows _ _ _ _)=>some [K]|_=>none)=some ks:=hk
  split at hk
  ·rename_i hb;cases hk;refine .inr ⟨K,by simp,_,hb,?_⟩
   have q:=r.bx K _ hb;generalize φ K=fp at q ⊢;cases q with
   |cH hb1=>rw[hb0] at hb1;cases hb1
   |rows=>rw[List.mem_singleton.1 hid];simp
  ·cases hk
 |mp K=>
  have hk:(match lk K s.bs with|some (.map _)=>some [K]|_=>none)=some ks:=hk
  split at hk
  ·rename_i hb;cases hk;refine .inr ⟨K,by simp,_,hb,?_⟩
   have q:=r.bx K _ hb;generalize φ K=fp at q ⊢;cases q with|map=>rw[List.mem_singleton.1 hid];simp
  ·cases hk
 |it K=>
  have hk:(match lk K s.bs with|some (.iter _ _)=>some [K]|_=>none)=some ks:=hk
  split at hk
  ·rename_i hb;cases hk;refine .inr ⟨K,by simp,_,hb,?_⟩
   have q:=r.bx K _ hb;generalize φ K=fp at q ⊢;cases q with|iter=>rw[List.mem_singleton.1 hid];simp
  ·cases hk
 |undef=>cases hk
 |_=>cases hid
theorem E8 (r:Rel B F g φ s tm h):∀{l:List Operand} {ks:List Nat},KO s.ts s.bs l=some ks->∀id∈g9 tm l,(∃o,F id=some o)\/∃k∈ks,∃b,lk k s.bs=some b/\id∈φ k
 | [],_,_,id,hid=>by cases hid
 |x::l,ks,hk,id,hid=>by
  obtain ⟨a,b,h1,h2,h3⟩:=az hk;cases h3;have hid:id∈eo (aM tm x)++g9 tm l:=hid;rcases List.mem_append.1 hid with hid|hid
  ·have hne:aL s.ts x≠ .undef:=fun e=>by rw[e] at h1;cases h1
   obtain ⟨v,v1,v2⟩:=r.val rfl hne;rw[v1] at hid;rcases YU r v2 h1 id hid with c|⟨k,hk,c⟩
   ·exact .inl c
   ·exact .inr ⟨k,List.mem_append_left _ hk,c⟩
  ·rcases E8 r h2 id hid with c|⟨k,hk,c⟩
   ·exact .inl c
   ·exact .inr ⟨k,List.mem_append_right _ hk,c⟩
def WY (bs:List (Nat×Bx)):AV->Option (List Nat)
 | .undef=>none
 | .mp K=>(match lk K bs with|some (.map _)=>some [K]|_=>none)
 |_=>some []
def DX (ts:List (Nat×AV)) (bs:List (Nat×Bx)):List Operand->Option (List Nat)
 | []=>some []
 |x::l=>aG (WY bs (aL ts x)) (DX ts bs l) fun a b=>some (a++b)
def s9 (ts:List (Nat×AV)) (bs:List (Nat×Bx)) (op:Op):Option (List Nat):=sel (QU op) (DX ts bs (F0 op)) (KO ts bs (F0 op))
theorem WX (r:Rel B F g φ s tm h) {y:AV} {v:SV} {ks:List Nat} (hv:VA F g v y) (hk:WY s.bs y=some ks):∀id∈idM (some v),∃k∈ks,∃b,lk k s.bs=some b/\id∈φ k:=by
 intro id hid;cases hv with
 |mp K=>
  have hk:(match lk K s.bs with|some (.map _)=>some [K]|_=>none)=some ks:=hk
  split at hk
  ·rename_i hb;cases hk;refine ⟨K,by simp,_,hb,?_⟩
   have q:=r.bx K _ hb;generalize φ K=fp at q ⊢;cases q with|map=>rw[List.mem_singleton.1 hid];simp
  ·cases hk
 |undef=>cases hk
 |_=>cases hid
theorem Bv (r:Rel B F g φ s tm h):∀{l:List Operand} {ks:List Nat},DX s.ts s.bs l=some ks->∀id∈ud tm l,∃k∈ks,∃b,lk k s.bs=some b/\id∈φ k
 | [],_,_,id,hid=>by cases hid
 |x::l,ks,hk,id,hid=>by
  obtain ⟨a,b,h1,h2,h3⟩:=az hk;cases h3;have hne:aL s.ts x≠ .undef:=fun e=>by rw[e] at h1;cases h1
  obtain ⟨v,v1,v2⟩:=r.val rfl hne;rcases List.mem_append.1 (show id∈idM (aM tm x)++ud tm l from hid) with hid|hid
  ·rw[v1] at hid;obtain ⟨k,c1,c2⟩:=WX r v2 h1 id hid;exact ⟨k,List.mem_append_left _ c1,c2⟩
  ·obtain ⟨k,c1,c2⟩:=Bv r h2 id hid;exact ⟨k,List.mem_append_right _ c1,c2⟩
theorem Q1 (r:Rel B F g φ s tm h) {op:Op} {ks:List Nat} (hk:s9 s.ts s.bs op=some ks):∀id∈eC op tm,(∃o,F id=some o)\/∃k∈ks,∃b,lk k s.bs=some b/\id∈φ k:=by
 rw[QC];unfold s9 at hk;cases hl:QU op with
 |true=>
  rw[hl] at hk;exact fun id hid=>.inr (Bv r hk id hid)
 |false=>
  rw[hl] at hk;exact fun id hid=>E8 r hk id hid
end
section
variable {F F':Hf} {g g':Gb} {B:Bs} {φ:Nat->List Nat} {s s' s1:LS} {tm:Tr SV} {h:Hs} {hp:Hf} {E:Env} {nt:Nat}
variable {base W cur nc:Nat} {vs vs':List LS} {laid:bt} {pp:List (Rc×PI)} {Fs:Nat->Hf} {lim:Nat->Nat}
theorem tH {new:Nat}:∀{us:List Up} {id:Nat},id∈gE new us->id≠new/\∃u∈us,u.1=id
 | [],id,h=>by cases h
 |u::us,id,h=>by
  have h:id∈sel (Nat.beq u.1 new) (gE new us) (u.1::gE new us):=h;rw[aC] at h;split at h
  ·obtain ⟨a,v,b,c⟩:=tH h;exact ⟨a,v,List.mem_cons_of_mem _ b,c⟩
  ·rename_i hne;rcases List.mem_cons.1 h with rfl|h
   ·exact ⟨fun e=>hne ((beq_iff _ _).2 e),u,List.mem_cons_self,rfl⟩
   ·obtain ⟨a,v,b,c⟩:=tH h;exact ⟨a,v,List.mem_cons_of_mem _ b,c⟩
theorem X6 {new:Nat} {us:List Up} (h:∀u∈us,u.1=new):gE new us= []:=by
 cases hw:gE new us with
 |nil=>rfl
 |cons a l=>
  obtain ⟨h1,u,h2,h3⟩:=tH (new:=new) (us:=us) (id:=a) (by rw[hw];exact List.mem_cons_self)
  exact absurd (h3.symm.trans (h u h2)) h1
def la:WK->List Nat
 |some (K,false)=> [K]
 |_=> []
def vu:WK->Bool
 |some (_,false)=>false
 |_=>true
def Ga (Wk:WK) (cur:Nat) (laid:bt):bt:=match Wk with|some q=>(q.1,cur)::laid|none=>laid
theorem Et {Wk:WK} {new:Nat} {us:List Up} {v:SV} {k:Nat} (hk:∀l,Wk≠some (k,l)):fT g (qG g Wk new us v) [k]:=by
 cases Wk with
 |none=>exact fun _ _=>⟨rfl,rfl,rfl⟩
 |some q=>
  show fT g (if dG new us=true then g.at q.1 new (Ak v) else g) [k]
  split
  ·exact Sv fun e=>hk q.2 (by rw[e])
  ·exact fun _ _=>⟨rfl,rfl,rfl⟩
theorem Z6 {Wk:WK} {new:Nat} {us:List Up} {k:Nat} (hk:dG new us=false\/∀l,Wk≠some (k,l)):o9 φ Wk new us k=φ k:=by
 cases Wk with
 |none=>rfl
 |some q=>
  show (if dG new us=true then fun k=>if k=q.1 then [new] else φ k else φ) k=φ k
  rcases hk with hk|hk
  ·rw[hk];rfl
  ·split
   ·exact if_neg fun e=>hk q.2 (by rw[e])
   ·rfl
theorem L3 {Wk:WK} {new:Nat} {us:List Up} {k i:Nat} (hi:i∈o9 φ Wk new us k):(i=new/\dG new us=true/\∃l,Wk=some (k,l))\/(i∈φ k/\(dG new us=false\/∀l,Wk≠some (k,l))):=by
 cases Wk with
 |none=>exact .inr ⟨hi,.inr fun l hl=>by cases hl⟩
 |some q=>
  have hi:i∈(if dG new us=true then fun k=>if k=q.1 then [new] else φ k else φ) k:=hi
  split at hi
  ·rename_i hn;by_cases hk:k=q.1
   ·rw[show (fun k=>if k=q.1 then [new] else φ k) k= [new] from if_pos hk] at hi
    exact .inl ⟨List.mem_singleton.1 hi,hn,q.2,by rw[hk]⟩
   ·rw[show (fun k=>if k=q.1 then [new] else φ k) k=φ k from if_neg hk] at hi
    exact .inr ⟨hi,.inr fun l hl=>hk (by cases hl;rfl)⟩
  ·rename_i hn;exact .inr ⟨hi,.inl (by cases hx:dG new us with|false=>rfl|true=>exact absurd hx hn)⟩
theorem m9 {Wk:WK} {k:Nat} {b:Bx} (h:lk k (s.oT Wk).bs=some b):(∀l,Wk≠some (k,l))/\∃b0,lk k s.bs=some b0:=by
 cases Wk with
 |none=>exact ⟨fun l hl=>(by cases hl),b,h⟩
 |some q=>
  obtain ⟨h1,b0,h2,_⟩:=D5 (s:=s) (K:=q.1) h;exact ⟨fun l hl=>h1 (by cases hl;rfl),b0,h2⟩
theorem W4 (r:Rel B F g φ s tm.get h) (Wk:WK):Rel B F g φ (s.oT Wk) tm.get h:=by
 cases Wk with
 |none=>exact r
 |some q=>exact Lj r q.1
theorem Ff {Wk:WK} {k:Nat} {b:Bx} (h1:∀l,Wk≠some (k,l)) (h2:lk k s.bs=some b):∃b',lk k (s.oT Wk).bs=some b':=by
 cases Wk with
 |none=>exact ⟨b,h2⟩
 |some q=>
  have hne:k≠q.1:=fun e=>h1 q.2 (by rw[e])
  show ∃b',lk k (bE q.1 (s.bs.map fun p=>(p.1,p.2.cZ q.1)))=some b'
  rw[du,if_neg hne,gT,h2];exact ⟨_,rfl⟩
theorem BG {Wk:WK} {K:Nat} {l:Bool} (h:Wk=some (K,l)):(s.oT Wk).free K:=by
 subst h;exact Fe s K
theorem fu {d:Option Nat} {x:AV}:(s.bB d x).bs=s.bs:=by cases d<;>rfl
theorem Ec {α:Type} {l l':List α} (h:l'.length=l.length) {j:Nat} {x:α} (hx:l'[j]? =some x):∃y,l[j]? =some y:=by
 have:=(List.getElem?_eq_some_iff.1 hx).1;exact ⟨_,List.getElem?_eq_some_iff.2 ⟨by omega,rfl⟩⟩
theorem DR.op (D:DR B base W cur nc vs laid pp g φ Fs lim tm.get h) {o:Oper} {m l:Nat} {x:AV} {Wk:WK} {sl:LS} {rk:List Nat} (fB:cur<W) (hl:vs[l]? =some sl) (hlen:vs'.length=vs.length)
  (hOK:∀j s,vs[j]? =some s->l<=j->∃t,vs'[j]? =some (t.bB o.dst x)/\aP E B o.op s t x Wk) (D6:∀j s,vs[j]? =some s->j<l->vs'[j]? =some ((s.oT Wk).bB o.dst .undef))
  (hrk:s9 sl.ts sl.bs o.op=some rk) (nD:∀k j,(k∈rk\/k∈la Wk)->(k,j)∈laid->eu m j=true) (sf:∀q∈pp,yS l m rk (la Wk) false (vu Wk) q.2):
  ∃v us,opA E o.op tm.get h.hp.get (base+cur)=some (v,us)/\cX m ⟨cur,false,eC o.op tm.get,gE (base+cur) us,base+cur,base+cur+1⟩ (pp.map (·.1))=true/\
   ∃g' φ',DR B base W (cur+1) nc vs' (Ga Wk cur laid) ((⟨cur,false,eC o.op tm.get,gE (base+cur) us,base+cur,base+cur+1⟩,⟨cur,0,rk,la Wk,vu Wk⟩)::pp) g' φ' Fs lim (bB tm o.dst v).get (h.ups us):=by
 generalize eM:base+cur=new;have jS:h.hp.get new=none:=by rw[<-eM];exact D.em cur (Nat.le_refl _) fB
 have hlo:B.nx<=new:=by have:=D.bn;omega
 obtain ⟨tl,tl1,tl2⟩:=hOK l sl hl (Nat.le_refl _);have rl:=D.r l sl hl;obtain ⟨v,us,o1,o2,o3,o4,o5,o6⟩:=tl2.go rl jS hlo;have hU:Upd h us new (h.ups us)\/(us= []/\h.ups us=h):=.inl ⟨fun _=>rfl,by rw[pQ];exact Nat.le_refl _,by rw[pQ];have:=D.hx;omega,fun y hy=>hy⟩
 have hnx:(h.ups us).nx=h.nx:=pQ us h;have hw:∀id∈gE new us,∃k∈la Wk,∃b,lk k sl.bs=some b/\id∈φ k:=fun id hid=>by
  obtain ⟨h1,u,h2,h3⟩:=tH hid;rcases o4 u h2 with c|⟨K,b,c1,c2,c3⟩
  ·exact absurd (h3.symm.trans c) h1
  ·rw[c1];exact ⟨K,by simp[la],b,c2,by rw[<-h3];exact c3⟩
 have hrd:∀id∈eC o.op tm.get,(∃o,Fs l id=some o)\/∃k∈rk,∃b,lk k sl.bs=some b/\id∈φ k:=fun id hid=>Q1 rl hrk id hid
 have hwn:vu Wk=true->gE new us= []:=fun hn=>X6 fun u hu=>(o4 u hu).elim (fun c=>c) fun ⟨K,b,c1,_⟩=>by rw[c1] at hn;cases hn
 refine ⟨v,us,o1,D.indep (rk:=rk) (wk:=la Wk) (wn:=vu Wk) fB hl hrd hw (fun id h1 h2=>.inl (by
  have h1:new<=id:=h1;have h2:id<new+1:=h2;omega)) nD hwn sf,qG g Wk new us v,o9 φ Wk new us,?_⟩
 have Ry:∀(j:Nat) (s:LS),vs[j]? =some s->∀i,((∃o,Fs j i=some o)\/∃k b,(∀l,Wk≠some (k,l))/\lk k s.bs=some b/\i∈φ k)->∀u∈us,u.1≠i:=fun j s hj i hi u hu e=>by
  have hcom:∃t st,vs[t]? =some st/\j<=t/\l<=t:=by
   rcases Nat.le_total j l with c|c
   ·exact ⟨l,sl,hl,c,Nat.le_refl _⟩
   ·exact ⟨j,s,hj,Nat.le_refl _,c⟩
  obtain ⟨t,st,ht,t1,t2⟩:=hcom;have rt:=D.r t st ht;rcases o4 u hu with c|⟨K,b,c1,c2,c3⟩
  ·rw[e] at c;rcases hi with ⟨o,ho⟩|⟨k,b,_,hb,hi⟩
   ·rw[c] at ho;have:=(D.r j s hj).sub new o ho;rw[jS] at this;cases this
   ·exact ((D.r j s hj).bx k b hb).there i hi (by rw[c];exact jS)
  ·obtain ⟨b',hb'⟩:=(D.up l t sl st t2 hl ht).2 K b c2;rw[e] at c3;rcases hi with ⟨o,ho⟩|⟨k,b1,hk,hb,hi⟩
   ·have:=(D.up j t s st t1 hj ht).1 i o ho;rw[rt.nf K b' hb' i c3] at this;cases this
   ·obtain ⟨b2,hb2⟩:=(D.up j t s st t1 hj ht).2 k b1 hb;exact rt.dj k K b2 b' hb2 hb' (fun e=>hk false (by rw[e];exact c1)) i hi c3
 have sep:∀(j:Nat) (s:LS),vs[j]? =some s->∀i,((∃o,Fs j i=some o)\/∃k b,(∀l,Wk≠some (k,l))/\lk k s.bs=some b/\i∈φ k)->(h.ups us).hp.get i=h.hp.get i:=fun j s hj i hi=>tI us (fun u hu=>Ry j s hj i hi u hu) h
 have seen:∀{j:Nat} {s':LS},vs'[j]? =some s'->∃s,vs[j]? =some s/\(∀k b,lk k s'.bs=some b->(∃b,lk k s.bs=some b)\/(dG new us=true/\∃l,Wk=some (k,l)))/\(j<l->∀k b,lk k s'.bs=some b->∀l,Wk≠some (k,l)):=fun {j s'} hj'=>by
  obtain ⟨s,hj⟩:=Ec hlen hj';refine ⟨s,hj,?_⟩;rcases Nat.lt_or_ge j l with c|c
  ·have:=D6 j s hj c;rw[hj'] at this;cases this;refine ⟨fun k b hb=> ?_,fun _ k b hb=> ?_⟩
   ·rw[fu] at hb;exact .inl (m9 hb).2
   ·rw[fu] at hb;exact (m9 hb).1
  ·obtain ⟨t,e1,e2⟩:=hOK j s hj c;rw[hj'] at e1;cases e1;obtain ⟨v',us',p1,p2,p3,p4,p5,p6⟩:=e2.go (D.r j s hj) jS hlo;rw[o1] at p1;cases p1;refine ⟨fun k b hb=> ?_,fun hc=>by omega⟩
   rw[fu] at hb;exact p5 k b hb
 have same:∀{j1:Nat} {s1:LS} {k1:Nat} {b1:Bx} {j2:Nat} {s2:LS} {k2:Nat} {b2:Bx} {i:Nat},vs[j1]? =some s1->lk k1 s1.bs=some b1->i∈φ k1->vs[j2]? =some s2->lk k2 s2.bs=some b2->i∈φ k2->k1=k2:=fun {j1 s1 k1 b1 j2 s2 k2 b2 i} h1 h2 h3 h4 h5 h6=>by
  rcases Nat.le_total j1 j2 with c|c
  ·obtain ⟨b,hb⟩:=(D.up j1 j2 s1 s2 c h1 h4).2 k1 b1 h2;exact Classical.byContradiction fun hne=>(D.r j2 s2 h4).dj k1 k2 b b2 hb h5 hne i h3 h6
  ·obtain ⟨b,hb⟩:=(D.up j2 j1 s2 s1 c h4 h1).2 k2 b2 h5;exact Classical.byContradiction fun hne=>(D.r j1 s1 h1).dj k1 k2 b1 b h2 hb hne i h3 h6
 have noF:∀{j1:Nat} {s1:LS} {o:SO} {j2:Nat} {s2:LS} {k2:Nat} {b2:Bx} {i:Nat},vs[j1]? =some s1->Fs j1 i=some o->vs[j2]? =some s2->lk k2 s2.bs=some b2->i∈φ k2->False:=fun {j1 s1 o j2 s2 k2 b2 i} h1 h2 h4 h5 h6=>by
  rcases Nat.le_total j1 j2 with c|c
  ·have:=(D.up j1 j2 s1 s2 c h1 h4).1 i o h2;rw[(D.r j2 s2 h4).nf k2 b2 h5 i h6] at this;cases this
  ·obtain ⟨b,hb⟩:=(D.up j2 j1 s2 s1 c h4 h1).2 k2 b2 h5;rw[(D.r j1 s1 h1).nf k2 b hb i h6] at h2;cases h2
 have r2:∀(j:Nat) (s':LS),vs'[j]? =some s'->Rel B (Fs j) (qG g Wk new us v) (o9 φ Wk new us) s' (bB tm o.dst v).get (h.ups us):=fun j s' hj'=>by
  obtain ⟨s,hj⟩:=Ec hlen hj';rcases Nat.lt_or_ge j l with c|c
  ·have:=D6 j s hj c;rw[hj'] at this;cases this;refine Rel.bB ?_ (fun hc=>absurd rfl hc)
   refine (W4 (D.r j s hj) Wk).Su (o3 _ hU) (fun id o ho=>sep j s hj id (.inl ⟨o,ho⟩)) (fun k b hb i hi=> ?_) (fun k b hb=>Z6 (.inr (m9 hb).1)) (fun t y hy=> ?_) fun k b hb=>⟨Et (m9 hb).1,?_⟩
   ·obtain ⟨c1,b0,c2⟩:=m9 hb;exact sep j s hj i (.inr ⟨k,b0,c1,c2,hi⟩)
   ·intro k hk;refine Et (k:=k) (fun l hl=> ?_) k (by simp)
    exact (BG (s:=s) hl).1 t y hy hk
   ·intro k' hk';refine Et (k:=k') (fun l hl=> ?_) k' (by simp)
    exact (BG (s:=s) hl).2 k b (fun e=>(m9 hb).1 l (by rw[e];exact hl)) hb hk'
  ·obtain ⟨t,e1,e2⟩:=hOK j s hj c;rw[hj'] at e1;cases e1;obtain ⟨v',us',p1,p2,p3,p4,p5,p6⟩:=e2.go (D.r j s hj) jS hlo;rw[o1] at p1;cases p1;exact (p3 _ hU).bB fun _=>p2
 refine ⟨r2,fun j j' s s' hjj hj hj'=> ?_,fun j s' hj' id o ho=> ?_,fun j s' hj' k b hb i hi=> ?_,fun j s' hj'=> ?_,by rw[hlen];exact D.top,by rw[hnx];exact D.hx,fun q hq hq'=> ?_,D.bn,fun q hq=> ?_,fun q hq id hid=> ?_,fun q hq j s' hj' k b hb i hi=> ?_,fun q hq i hi j s' hj'=> ?_,fun q hq hn=> ?_⟩
 ·obtain ⟨s0,a1,a2,a3⟩:=seen hj;obtain ⟨s0',b1,b2,b3⟩:=seen hj';refine ⟨(D.up j j' s0 s0' hjj a1 b1).1,fun k b hb=> ?_⟩
  rcases Nat.lt_or_ge j' l with c|c
  ·have e0:=D6 j' s0' b1 c;rw[hj'] at e0;cases e0;have hne:=a3 (by omega) k b hb
   rcases a2 k b hb with ⟨b',hb'⟩|⟨_,l',hl'⟩
   ·obtain ⟨b2',hb2'⟩:=(D.up j j' s0 s0' hjj a1 b1).2 k b' hb';rw[fu];exact Ff hne hb2'
   ·exact absurd hl' (hne l')
  ·obtain ⟨t,e1,e2⟩:=hOK j' s0' b1 c;rw[hj'] at e1;cases e1;obtain ⟨v',us',p1,p2,p3,p4,p5,p6⟩:=e2.go (D.r j' s0' b1) jS hlo;rw[fu];rcases a2 k b hb with ⟨b',hb'⟩|⟨_,l',hl'⟩
   ·exact p6 k (.inl ((D.up j j' s0 s0' hjj a1 b1).2 k b' hb'))
   ·exact p6 k (.inr ⟨l',hl'⟩)
 ·obtain ⟨s,hj⟩:=Ec hlen hj';exact D.fb j s hj id o ho
 ·obtain ⟨s0,a1,a2,a3⟩:=seen hj';rcases L3 hi with ⟨c1,c2,l',c3⟩|⟨c1,c2⟩
  ·refine .inr (.inr ⟨cur,?_,Nat.lt_succ_self _,by rw[c1,eM]⟩)
   rw[c3];exact List.mem_cons_self
  ·have hs:∃b,lk k s0.bs=some b:=by
    rcases a2 k b hb with c|⟨d1,l',d2⟩
    ·exact c
    ·rcases c2 with c2|c2
     ·rw[c2] at d1;cases d1
     ·exact absurd d2 (c2 l')
   obtain ⟨b0,hb0⟩:=hs;rcases D.bb j s0 a1 k b0 hb0 i c1 with d|d|⟨q,d1,d2,d3⟩
   ·exact .inl d
   ·exact .inr (.inl d)
   ·refine .inr (.inr ⟨q,?_,by omega,d3⟩)
    unfold Ga;split
    ·exact List.mem_cons_of_mem _ d1
    ·exact d1
 ·obtain ⟨s,hj⟩:=Ec hlen hj';rw[hnx];exact D.lm j s hj
 ·have hq0:h.hp.get (base+q)=none:=D.em q (by omega) hq'
  rw[tI us (fun u hu e=> ?_) h]
  ·exact hq0
  ·rcases o4 u hu with c|⟨K,b,_,c2,c3⟩
   ·omega
   ·rw[e] at c3;exact (rl.bx K b c2).there _ c3 hq0
 ·rcases List.mem_cons.1 hq with rfl|hq
  ·exact ⟨rfl,Nat.lt_succ_self _,Nat.zero_le _,fun _=>⟨rfl,eM.symm,by show new+1=base+cur+1;omega⟩,fun hc=>absurd rfl hc⟩
  ·obtain ⟨p1,p2,p3,p4,p5⟩:=D.pi q hq;refine ⟨p1,by omega,p3,p4,fun hn=> ?_⟩
   obtain ⟨a1,a2,a3,a4⟩:=p5 hn;refine ⟨a1,a2,by rw[hnx];exact a3,fun j s' hj' hlt=> ?_⟩
   obtain ⟨s,hj⟩:=Ec hlen hj';exact a4 j s hj hlt
 ·rw[hnx];rcases List.mem_cons.1 hq with rfl|hq
  ·have ov:=D.lm l sl hl;have hid:(∃o,Fs l id=some o)\/∃k b,lk k sl.bs=some b/\id∈φ k:=by
    rcases hid with c|c
    ·rcases hrd id c with c|⟨k,_,b,c1,c2⟩
     ·exact .inl c
     ·exact .inr ⟨k,b,c1,c2⟩
    ·obtain ⟨k,_,b,c1,c2⟩:=hw id c;exact .inr ⟨k,b,c1,c2⟩
   rcases hid with ⟨o,ho⟩|⟨k,b,c1,c2⟩
   ·rcases D.fb l sl hl id o ho with d|d
    ·exact .inl d
    ·exact .inr (.inl (by omega))
   ·rcases D.bb l sl hl k b c1 id c2 with d|d|⟨q,d1,d2,d3⟩
    ·exact .inl d
    ·exact .inr (.inl (by omega))
    ·exact .inr (.inr ⟨q,(show q<=cur by omega),d3⟩)
  ·exact D.po q hq id hid
 ·obtain ⟨s0,a1,a2,a3⟩:=seen hj';have hs:(i=new)\/(i∈φ k/\∃b,lk k s0.bs=some b):=by
   rcases L3 hi with ⟨c1,_⟩|⟨c1,c2⟩
   ·exact .inl c1
   ·refine .inr ⟨c1,?_⟩;rcases a2 k b hb with c|⟨d1,l',d2⟩
    ·exact c
    ·rcases c2 with c2|c2
     ·rw[c2] at d1;cases d1
     ·exact absurd d2 (c2 l')
  rcases List.mem_cons.1 hq with rfl|hq
  ·refine ⟨fun hr=> ?_,fun hr=> ?_⟩
   ·rcases hrd i hr with ⟨o,ho⟩|⟨k0,hk0,b0,c1,c2⟩
    ·rcases hs with rfl|⟨c1,b0,c2⟩
     ·rw[rl.sub _ o ho] at jS;cases jS
     ·exact (noF hl ho a1 c2 c1).elim
    ·rcases hs with rfl|⟨d1,b1,d2⟩
     ·exact absurd jS ((rl.bx k0 b0 c1).there _ c2)
     ·rw[same a1 d2 d1 hl c1 c2];exact hk0
   ·obtain ⟨k0,hk0,b0,c1,c2⟩:=hw i hr;rcases hs with rfl|⟨d1,b1,d2⟩
    ·exact absurd jS ((rl.bx k0 b0 c1).there _ c2)
    ·rw[same a1 d2 d1 hl c1 c2];exact hk0
  ·rcases hs with e|⟨d1,b1,d2⟩
   ·obtain ⟨p1,p2,_⟩:=D.pi q hq;have hno:¬(i∈q.1.rd\/i∈q.1.wr):=fun hc=>by
     have:=D.hx;rcases D.po q hq i hc with d|d|⟨j',d1,d2⟩<;>omega
    exact ⟨fun hc=>absurd (.inl hc) hno,fun hc=>absurd (.inr hc) hno⟩
   ·exact D.pr q hq j s0 a1 k b1 d2 i d1
 ·obtain ⟨s0,hj⟩:=Ec hlen hj';rcases List.mem_cons.1 hq with rfl|hq
  ·obtain ⟨k0,hk0,b0,c1,c2⟩:=hw i hi;cases hf:Fs j i with
   |none=>rfl
   |some o=>exact (noF hj hf hl c1 c2).elim
  ·exact D.pf q hq i hi j s0 hj
 ·rcases List.mem_cons.1 hq with rfl|hq
  ·exact hwn hn
  ·exact D.pw q hq hn
end
section
variable {F F':Hf} {g g':Gb} {B:Bs} {φ:Nat->List Nat} {s s' s1:LS} {tm:Tr SV} {h:Hs} {hp:Hf} {E:Env} {nt:Nat}
variable {base W cur nc:Nat} {vs vs':List LS} {laid:bt} {pp:List (Rc×PI)} {Fs:Nat->Hf} {lim:Nat->Nat}
theorem DR.skip (D:DR B base W cur nc vs laid pp g φ Fs lim tm.get h) {d:Option Nat} {m:Nat} (fB:cur<W):
  cX m ⟨cur,false,[],[],base+cur,base+cur+1⟩ (pp.map (·.1))=true/\DR B base W (cur+1) nc (vs.map fun s=>s.bB d (.tup [])) laid ((⟨cur,false,[],[],base+cur,base+cur+1⟩,⟨cur,0,[],[],true⟩)::pp) g φ Fs lim (bB tm d (.tup [])).get h:=by
 have hlt:0<vs.length:=by rw[D.top];omega
 have hl:vs[0]? =some vs[0]:=List.getElem?_eq_getElem hlt;have back:∀{j:Nat} {s':LS},(vs.map fun s=>s.bB d (.tup []))[j]? =some s'->∃s,vs[j]? =some s/\s'=s.bB d (.tup []):=fun {j s'} hj=>by
  rw[List.getElem?_map] at hj;obtain ⟨s,hs,rfl⟩:=Option.map_eq_some_iff.1 hj;exact ⟨s,hs,rfl⟩
 refine ⟨?_,fun j s' hj=> ?_,fun j j' s s' hjj hj hj'=> ?_,fun j s' hj=> ?_,fun j s' hj k b hb i hi=> ?_,fun j s' hj=> ?_,by rw[List.length_map];exact D.top,D.hx,fun q hq hq'=>D.em q (by omega) hq',D.bn,fun q hq=> ?_,fun q hq id hid=> ?_,fun q hq j s' hj k b hb i hi=> ?_,fun q hq i hi j s' hj=> ?_,fun q hq hn=> ?_⟩
 ·refine D.indep (l:=0) (rk:= []) (wk:= []) (wn:=true) fB hl (fun id hid=>by cases hid) (fun id hid=>by cases hid) (fun id h1 h2=>.inl ?_) (fun k j hk=>by rcases hk with c|c<;>cases c) (fun _=>rfl) fun q hq=> ?_
  ·have h1:base+cur<=id:=h1;have h2:id<base+cur+1:=h2;omega
  ·exact .inr ⟨fun hn=>⟨by omega,rfl,rfl⟩,fun hc=>(by cases hc),fun k hk=>(by cases hk),fun k hk=>by cases hk⟩
 ·obtain ⟨s,hs,rfl⟩:=back hj;exact (D.r j s hs).bB fun _=>.tup .nil
 ·obtain ⟨s0,hs,rfl⟩:=back hj;obtain ⟨s0',hs',rfl⟩:=back hj';obtain ⟨a,b⟩:=D.up j j' s0 s0' hjj hs hs';exact ⟨a,fun k b' hb=>by rw[fu] at hb ⊢;exact b k b' hb⟩
 ·obtain ⟨s,hs,rfl⟩:=back hj;exact D.fb j s hs
 ·obtain ⟨s,hs,rfl⟩:=back hj;rw[fu] at hb;rcases D.bb j s hs k b hb i hi with c|c|⟨q,c1,c2,c3⟩
  ·exact .inl c
  ·exact .inr (.inl c)
  ·exact .inr (.inr ⟨q,c1,by omega,c3⟩)
 ·obtain ⟨s,hs,rfl⟩:=back hj;exact D.lm j s hs
 ·rcases List.mem_cons.1 hq with rfl|hq
  ·exact ⟨rfl,Nat.lt_succ_self _,Nat.zero_le _,fun _=>⟨rfl,rfl,rfl⟩,fun hc=>absurd rfl hc⟩
  ·obtain ⟨p1,p2,p3,p4,p5⟩:=D.pi q hq;refine ⟨p1,by omega,p3,p4,fun hn=> ?_⟩
   obtain ⟨a1,a2,a3,a4⟩:=p5 hn;exact ⟨a1,a2,a3,fun j s' hj hlt=>by obtain ⟨s,hs,rfl⟩:=back hj;exact a4 j s hs hlt⟩
 ·rcases List.mem_cons.1 hq with rfl|hq
  ·rcases hid with c|c<;>cases c
  ·exact D.po q hq id hid
 ·obtain ⟨s,hs,rfl⟩:=back hj;rw[fu] at hb;rcases List.mem_cons.1 hq with rfl|hq
  ·exact ⟨fun hc=>(by cases hc),fun hc=>by cases hc⟩
  ·exact D.pr q hq j s hs k b hb i hi
 ·obtain ⟨s,hs,rfl⟩:=back hj;rcases List.mem_cons.1 hq with rfl|hq
  ·cases hi
  ·exact D.pf q hq i hi j s hs
 ·rcases List.mem_cons.1 hq with rfl|hq
  ·rfl
  ·exact D.pw q hq hn
def LS.ug (s:LS):List Nat->LS
 | []=>s
 |k::ks=>(s.lN k).ug ks
theorem Ru {K K':Nat} (hf:s.free K):(s.lN K').free K:=by
 refine ⟨fun t x hx hc=> ?_,fun k b hne hb hc=> ?_⟩
 ·obtain ⟨y,hy,rfl⟩:=aeM hx;unfold gn at hc;rw[aC] at hc;split at hc
  ·cases hc
  ·exact hf.1 t y hy hc
 ·obtain ⟨_,b0,h0,rfl⟩:=D5 hb;have h2:=hf.2 k b0 hne h0;cases b0 with
  |flat e cs=>
   have key:∀cs:List AV,K∈cQ (qA K' cs)->K∈cQ cs:=fun cs=>by
    induction cs with
    |nil=>exact fun h=>h
    |cons x l ih=>
     intro h;rcases List.mem_append.1 (show K∈bV (gn K' x)++cQ (qA K' l) from h) with h|h
     ·unfold gn at h;rw[aC] at h;split at h
      ·cases h
      ·exact List.mem_append_left _ h
     ·exact List.mem_append_right _ (ih h)
   exact h2 (key cs hc)
  |hole e s0 Q i x=>
   refine h2 ?_;have h:K∈bV (gn K' x):=hc;unfold gn at h;rw[aC] at h;split at h
   ·cases h
   ·exact h
  |own e e' s0 Q o=>cases o with
   |none=>cases hc
   |some p=>
   refine h2 ?_;have h:K∈bV (gn K' p.2):=hc;unfold gn at h;rw[aC] at h;split at h
   ·cases h
   ·exact h
  |_=>cases hc
theorem Fg:∀(ks:List Nat) {s:LS},Rel B F g φ s tm.get h->Rel B F g φ (s.ug ks) tm.get h
 | [],_,r=>r
 |k::ks,_,r=>Fg ks (Lj r k)
theorem Lk:∀{ks:List Nat} {s:LS} {k:Nat} {b:Bx},lk k (s.ug ks).bs=some b->k∉ks/\∃b0,lk k s.bs=some b0
 | [],_,_,b,h=>⟨fun hc=>(by cases hc),b,h⟩
 |K::ks,s,k,b,h=>by
  obtain ⟨h1,b0,h2⟩:=Lk (ks:=ks) (s:=s.lN K) h;obtain ⟨h3,b1,h4,_⟩:=D5 h2;exact ⟨fun hc=>(List.mem_cons.1 hc).elim h3 h1,b1,h4⟩
theorem Fh:∀{ks:List Nat} {s:LS} {k:Nat} {b:Bx},k∉ks->lk k s.bs=some b->∃b',lk k (s.ug ks).bs=some b'
 | [],_,_,b,_,h=>⟨b,h⟩
 |K::ks,s,k,b,hk,h=>by
  obtain ⟨b',hb'⟩:=Ff (s:=s) (Wk:=some (K,true)) (k:=k) (fun l hl=>hk (by cases hl;exact List.mem_cons_self)) h
  exact Fh (ks:=ks) (s:=s.lN K) (fun hc=>hk (List.mem_cons_of_mem _ hc)) hb'
theorem BH {K:Nat}:∀{ks:List Nat} {s:LS},s.free K->(s.ug ks).free K
 | [],_,h=>h
 |k::ks,_,h=>BH (ks:=ks) (Ru h)
theorem BI:∀{ks:List Nat} {s:LS} {K:Nat},K∈ks->(s.ug ks).free K
 |k::ks,s,K,h=>by
  rcases List.mem_cons.1 h with rfl|h
  ·exact BH (s:=s.lN K) (Fe s K)
  ·exact BI (s:=s.lN k) h
def LS.wH (s:LS):List Nat->LS
 | []=>s
 |k::ks=>(LS.mk s.ts (bE k s.bs)).wH ks
theorem wG:∀{ks:List Nat} {s:LS} {k:Nat} {b:Bx},lk k (s.wH ks).bs=some b->k∉ks/\lk k s.bs=some b
 | [],_,_,b,h=>⟨fun hc=>(by cases hc),h⟩
 |K::ks,s,k,b,h=>by
  obtain ⟨h1,h2⟩:=wG (ks:=ks) (s:=LS.mk s.ts (bE K s.bs)) h;have h2:lk k (bE K s.bs)=some b:=h2;rw[du] at h2;split at h2
  ·cases h2
  ·rename_i hne;exact ⟨fun hc=>(List.mem_cons.1 hc).elim hne h1,h2⟩
theorem BW:∀{ks:List Nat} {s:LS} {k:Nat} {b:Bx},k∉ks->lk k s.bs=some b->lk k (s.wH ks).bs=some b
 | [],_,_,_,_,h=>h
 |K::ks,s,k,b,hk,h=>BW (ks:=ks) (s:=LS.mk s.ts (bE K s.bs)) (fun hc=>hk (List.mem_cons_of_mem _ hc)) (by
  show lk k (bE K s.bs)=some b;rw[du,if_neg (fun (e:k=K)=>hk (by rw[e];exact List.mem_cons_self))];exact h)
theorem Fu:∀{ks:List Nat} {s:LS},(s.wH ks).ts=s.ts
 | [],_=>rfl
 |K::ks,s=>Fu (ks:=ks) (s:=LS.mk s.ts (bE K s.bs))
def LS.oU (s:LS) (ps rs:bt):LS:=(s.wH (ps.map (·.1))).ug (rs.map (·.1))
theorem W5 (ps rs:bt) {s:LS} (r:Rel B F g φ s tm.get h):Rel B F g φ (s.oU ps rs) tm.get h:=
 Fg _ (r.less ⟨fun t y hy=>.inr ⟨y,by rw[Fu] at hy;exact hy,WV.refl y⟩,fun k b hb=>⟨b,(wG hb).2,WB.refl b⟩⟩)
theorem ju {ps rs:bt} {s:LS} {k:Nat} {b:Bx} (h:lk k (s.oU ps rs).bs=some b):k∉(ps++rs).map (·.1)/\∃b0,lk k s.bs=some b0:=by
 obtain ⟨h1,b0,h2⟩:=Lk h;obtain ⟨h3,h4⟩:=wG h2;rw[List.map_append];exact ⟨fun hc=>(List.mem_append.1 hc).elim h3 h1,b0,h4⟩
theorem W6 {ps rs:bt} {s:LS} {k:Nat} {b:Bx} (hk:k∉(ps++rs).map (·.1)) (h:lk k s.bs=some b):∃b',lk k (s.oU ps rs).bs=some b':=by
 rw[List.map_append] at hk;exact Fh (fun hc=>hk (List.mem_append_right _ hc)) (BW (fun hc=>hk (List.mem_append_left _ hc)) h)
theorem BJ {ps rs:bt} {s:LS} {q:Nat×Nat} (hq:q∈rs):(s.oU ps rs).free q.1:=BI (List.mem_map.2 ⟨q,hq,rfl⟩)
theorem l9 {n x:Nat}:∀{l acc:List Nat},x∈below n l acc->x∈acc\/(x∈l/\x<n)
 | [],_,hx=>.inl hx
 |y::l,acc,hx=>by
  have hx:x∈sel (Nat.ble (Nat.succ y) n) (below n l (y::acc)) (below n l acc):=hx;rw[aC] at hx;split at hx
  ·rename_i hlt;rcases l9 hx with c|c
   ·rcases List.mem_cons.1 c with rfl|c
    ·exact .inr ⟨by simp,Nat.le_of_ble_eq_true hlt⟩
    ·exact .inl c
   ·exact .inr ⟨List.mem_cons_of_mem _ c.1,c.2⟩
  ·rcases l9 hx with c|c
   ·exact .inl c
   ·exact .inr ⟨List.mem_cons_of_mem _ c.1,c.2⟩
theorem DR.call (D:DR B base W cur nc vs laid pp g φ Fs lim tm.get h) {d:Option Nat} {m f:Nat} {st:LS} {ps rs:bt} {bs bs' ob:List (Nat×Bx)} {xs:List AV} {y:AV} {aa:List SV} (fB:cur<W) (hst:vs[nc]? =some st) (hg:oW (ps++rs)=true) (hps:oN st.bs (ps++rs) ps=some bs) (hkb:oS st.bs ps ps=true) (hkx:eT ps (cQ xs)=true) (has:VAs (Fs nc) g aa xs)
  (hrs:∀q∈rs,st.free q.1/\B.pk q.1=false/\lk q.1 st.bs=none) (hc:aZ E f bs (g7 (fiP (ps++rs)) xs) y bs') (hob:tW bs' (ps++rs) (ps++rs)=some ob) (hko:oQ bs' (ps++rs) (ps++rs)=true) (hky:eT (jR (ps++rs)) (bV y)=true)
  (nD:∀k j,k∈ps.map (·.1)->(k,j)∈laid->eu m j=true) (sf:∀q∈pp,yS nc m [] (ps.map (·.1)) true false q.2):
  ∃v h2,bw E (.call (.fn (.func f) [] []) aa ⟨jx m (pp.map (·.1)) h.hp,h.nx,[]⟩) (.cI [⟨false,v,h2⟩])/\cX m ⟨cur,true,[],below h.nx h2.lg [],h.nx,h2.nx⟩ (pp.map (·.1))=true/\
   ∃g' φ' Fs' DW,DR B base W (cur+1) (nc+1) ((vs.map fun s=>(s.oU ps rs).bB d .undef)++ [LS.bB ⟨st.ts,ob++st.bs⟩ d (jP (foP (ps++rs)) y)]) laid ((⟨cur,true,[],below h.nx h2.lg [],h.nx,h2.nx⟩,⟨cur,nc+1,[],ps.map (·.1),false⟩)::pp) g' φ' Fs' DW (bB tm d v).get ⟨dZ m h.hp (pp.map (·.1)) h2.hp,h2.nx,below h.nx h2.lg h.lg⟩:=by
 have rt:=D.r nc st hst;have hpm:∀{K k b},(K,k)∈ps->lk K st.bs=some b->K∈ps.map (·.1):=fun h1 _=>List.mem_map.2 ⟨_,h1,rfl⟩
 have RC:∀x,Hid m (pp.map (·.1)) x->∃q∈pp,eu m q.2.i=false/\q.2.n=0/\x=base+q.2.i/\q.2.i<cur:=fun x ⟨p,hp,h1,h2⟩=>by
  obtain ⟨q,hq,rfl⟩:=List.mem_map.1 hp;obtain ⟨p1,p2,p3,p4,p5⟩:=D.pi q hq;rw[p1] at h1;have hn:q.2.n=0:=by
   rcases sf q hq with c|⟨c,_⟩
   ·rw[h1] at c;cases c
   ·exact Classical.byContradiction fun hn=>by have:=(c hn).1;omega
  exact ⟨q,hq,h1,hn,by rw[<-h2];exact (p4 hn).2.1,p2⟩
 have ov:=D.lm nc st hst;have hnoH:∀{K k b},(K,k)∈ps->lk K st.bs=some b->∀i∈φ K,¬Hid m (pp.map (·.1)) i:=fun {K k b} h1 h2 i hi hc=>by
  obtain ⟨q,hq,b1,b2,b3,b4⟩:=RC i hc;rcases D.bb nc st hst K b h2 i hi with c|c|⟨j,c1,c2,c3⟩
  ·omega
  ·omega
  ·have e:j=q.2.i:=by omega
   have:=nD K j (hpm h1 h2) c1;rw[e,b1] at this;cases this
 obtain ⟨F',g2,φ2,h1,v,go,hv,hr,hF,hFn,hnx1,hlg1,hφn,hgs,Rn,hold⟩:=rt.call (hh:=⟨jx m (pp.map (·.1)) h.hp,h.nx,[]⟩) (Hd:=Hid m (pp.map (·.1))) (fun x hx=>(eO _ _ x).2 hx) (fun x hx=>by
  obtain ⟨q,hq,b1,b2,b3,b4⟩:=RC x hx;refine ⟨(eO _ _ x).1 hx,?_,?_,fun K k b m1 m2 hi=>hnoH m1 m2 x hi hx⟩
  ·cases hf:Fs nc x with
   |none=>rfl
   |some o=>rcases D.fb nc st hst x o hf with c|c<;>omega
  ·show x<h.nx;have:=D.hx;omega) rfl hg hps hkb hkx has hrs hc hob hko hky
 have hnx1:h.nx<=h1.nx:=hnx1;generalize hh2:(⟨h1.hp,h1.nx,below h.nx h1.lg []⟩:Hs)=h2 at go;have e1:h2.hp=h1.hp:=by rw[<-hh2]
 have e2:h2.nx=h1.nx:=by rw[<-hh2]
 have e3:h2.lg=below h.nx h1.lg []:=by rw[<-hh2]
 have hwr:∀id∈below h.nx h2.lg [],id<h.nx/\∃k∈ps.map (·.1),∃b,lk k st.bs=some b/\id∈φ k:=fun id hid=>by
  rcases l9 hid with c|⟨c1,c2⟩
  ·cases c
  ·rw[e3] at c1;rcases l9 c1 with c|⟨c3,_⟩
   ·cases c
   ·obtain ⟨K,k,b,d1,d2,d3⟩:=hlg1 id c3 c2;exact ⟨c2,K,hpm d1 d2,b,d2,d3⟩
 have Qz:=hr ⟨dZ m h.hp (pp.map (·.1)) h2.hp,h2.nx,below h.nx h2.lg h.lg⟩ (fun x hx=>((iq _ _ x).2 hx).trans (by rw[e1])) (fun x hx=>(iq _ _ x).1 hx) e2 (fun x hx=>by
  rcases l9 hx with c|⟨c1,c2⟩
  ·exact .inl c
  ·rw[e3] at c1;rcases l9 c1 with c|⟨c3,_⟩
   ·cases c
   ·exact .inr ⟨c3,c2⟩)
 generalize hh':(⟨dZ m h.hp (pp.map (·.1)) h2.hp,h2.nx,below h.nx h2.lg h.lg⟩:Hs)=h' at*
 have nx':h'.nx=h1.nx:=by rw[<-hh',<-e2]
 have fL:∀x,x<h.nx->(∀K k b,(K,k)∈ps->lk K st.bs=some b->x∉φ K)->h'.hp.get x=h.hp.get x:=fun x hx hno=>by
  rw[<-hh'];show (dZ m h.hp (pp.map (·.1)) h2.hp).get x=_
  by_cases c:Hid m (pp.map (·.1)) x
  ·exact (iq _ _ x).1 c
  ·rw[(iq _ _ x).2 c,e1,hold x hx hno];exact (eO _ _ x).2 c
 let Fs':Nat->Hf:=fun j=>if j=nc+1 then F' else Fs j
 let DW:Nat->Nat:=fun j=>if j=nc+1 then h1.nx else lim j
 have Fo:∀{j},j<=nc->Fs' j=Fs j:=fun {j} hj=>if_neg (by omega)
 have Fn:Fs' (nc+1)=F':=if_pos rfl;have lo:∀{j},j<=nc->DW j=lim j:=fun {j} hj=>if_neg (by omega)
 have ln:DW (nc+1)=h1.nx:=if_pos rfl;generalize hvs:(vs.map fun s=>(s.oU ps rs).bB d .undef)++ [LS.bB ⟨st.ts,ob++st.bs⟩ d (jP (foP (ps++rs)) y)]=vs2
 have view:∀{j:Nat} {s':LS},vs2[j]? =some s'->(j<=nc/\∃s,vs[j]? =some s/\s'=(s.oU ps rs).bB d .undef)\/(j=nc+1/\s'=LS.bB ⟨st.ts,ob++st.bs⟩ d (jP (foP (ps++rs)) y)):=fun {j s'} hj=>by
  rw[<-hvs,List.getElem?_append] at hj;split at hj
  ·rename_i hlt;rw[List.length_map,D.top] at hlt;rw[List.getElem?_map] at hj;obtain ⟨s,hs,rfl⟩:=Option.map_eq_some_iff.1 hj;exact .inl ⟨by omega,s,hs,rfl⟩
  ·rename_i hlt;rw[List.length_map,D.top] at hlt hj;have:j-(nc+1)=0:=by
    have:=(List.getElem?_eq_some_iff.1 hj).1;simp at this;omega
   rw[this] at hj;cases hj;exact .inr ⟨by omega,rfl⟩
 have Rl:∀{j:Nat} {s:LS} {k:Nat} {b:Bx},vs[j]? =some s->lk k s.bs=some b->∃b',lk k st.bs=some b':=fun {j s k b} hj hb=>by
  have hle:j<=nc:=by have:=(List.getElem?_eq_some_iff.1 hj).1;rw[D.top] at this;omega
  exact (D.up j nc s st hle hj hst).2 k b hb
 have nal:∀{K:Nat},K∉(ps++rs).map (·.1)->lk K (ps++rs)=none:=fun {K} hK=>by
  cases hl:lk K (ps++rs) with
  |none=>rfl
  |some k=>exact absurd (List.mem_map.2 ⟨_,nV hl,rfl⟩) hK
 have Su:∀{j:Nat} {s:LS} {k:Nat} {b:Bx} {i:Nat},vs[j]? =some s->k∉(ps++rs).map (·.1)->lk k s.bs=some b->i∈φ k->i<h.nx/\∀K k' b',(K,k')∈ps->lk K st.bs=some b'->i∉φ K:=fun {j s k b i} hj hk hb hi=>by
  obtain ⟨b1,hb1⟩:=Rl hj hb;refine ⟨rt.lt hb1 i hi,fun K k' b' m1 m2 hc=>rt.dj k K b1 b' hb1 m2 (fun e=>hk ?_) i hi hc⟩
  rw[e];exact List.mem_map.2 ⟨_,List.mem_append_left _ m1,rfl⟩
 have Qb:∀{k b},lk k (ob++st.bs)=some b->∀i∈φ2 k,(i<h.nx/\∃b,lk k st.bs=some b/\i∈φ k)\/h.nx<=i:=fun hb i hi=>hφn _ _ hb i hi
 have r2:∀(j:Nat) (s':LS),vs2[j]? =some s'->Rel B (Fs' j) g2 φ2 s' (bB tm d v).get h':=fun j s' hj=>by
  rcases view hj with ⟨hle,s,hs,rfl⟩|⟨rfl,rfl⟩
  ·rw[Fo hle];refine Rel.bB ?_ (fun hc=>absurd rfl hc)
   refine (W5 ps rs (D.r j s hs)).Su Qz (fun id o ho=> ?_) (fun k b hb i hi=> ?_) (fun k b hb=>Rn k (nal (ju hb).1)) (fun t y hy=> ?_) fun k b hb=>⟨?_,?_⟩
   ·have hot:=(D.up j nc s st hle hs hst).1 id o ho;exact fL id (rt.flt hot) fun K k b m1 m2 hi=>by rw[rt.nf K b m2 id hi] at hot;cases hot
   ·obtain ⟨c1,b0,c2⟩:=ju hb;obtain ⟨d1,d2⟩:=Su hs c1 c2 hi;exact fL i d1 d2
   ·exact hgs _ fun q hq hc=>(BJ (ps:=ps) (s:=s) hq).1 t y hy hc
   ·exact hgs _ fun q hq hc=>(ju hb).1 (by rw[<-List.mem_singleton.1 hc];exact List.mem_map.2 ⟨q,List.mem_append_right _ hq,rfl⟩)
   ·exact hgs _ fun q hq hc=>(BJ (ps:=ps) (s:=s) hq).2 k b (fun e=>(ju hb).1 (by rw[e];exact List.mem_map.2 ⟨q,List.mem_append_right _ hq,rfl⟩)) hb hc
  ·rw[Fn];exact Qz.bB fun _=>hv
 refine ⟨v,h2,go,?_,g2,φ2,Fs',DW,?_⟩
 ·refine D.indep (rk:= []) (wk:=ps.map (·.1)) (wn:=false) fB hst (fun id hid=>by cases hid) (fun id hid=>(hwr id hid).2) (fun id h3 h4=>.inr h3) (fun k j hk=>by
   rcases hk with c|c
   ·cases c
   ·exact nD k j c) (fun hc=>by cases hc) sf
 rw[hh'];refine ⟨r2,fun j j' s s' hjj hj hj'=> ?_,fun j s' hj id o ho=> ?_,fun j s' hj k b hb i hi=> ?_,fun j s' hj=> ?_,by rw[<-hvs,List.length_append,List.length_map,D.top];rfl,(by rw[nx'];have:=D.hx;omega),fun q hq hq'=> ?_,D.bn,fun q hq=> ?_,fun q hq id hid=> ?_,fun q hq j s' hj k b hb i hi=> ?_,fun q hq i hi j s' hj=> ?_,fun q hq hn=> ?_⟩
 ·rcases view hj with ⟨a1,s0,a2,rfl⟩|⟨rfl,rfl⟩
  ·rcases view hj' with ⟨b1,s0',b2,rfl⟩|⟨rfl,rfl⟩
   ·rw[Fo a1,Fo b1];obtain ⟨u1,u2⟩:=D.up j j' s0 s0' hjj a2 b2;refine ⟨u1,fun k b hb=> ?_⟩
    rw[fu] at hb ⊢;obtain ⟨c1,b0,c2⟩:=ju hb;obtain ⟨b3,c3⟩:=u2 k b0 c2;exact W6 c1 c3
   ·rw[Fo a1,Fn];refine ⟨(D.up j nc s0 st a1 a2 hst).1.trans hF,fun k b hb=> ?_⟩
    rw[fu] at hb ⊢;obtain ⟨c1,b0,c2⟩:=ju hb;obtain ⟨b3,c3⟩:=Rl a2 c2;show ∃b',lk k (ob++st.bs)=some b';rw[vY,c3];cases lk k ob with
    |none=>exact ⟨_,rfl⟩
    |some b4=>exact ⟨_,rfl⟩
  ·rcases view hj' with ⟨b1,s0',b2,rfl⟩|⟨rfl,rfl⟩
   ·omega
   ·exact ⟨Hle.refl _,fun k b hb=>⟨b,hb⟩⟩
 ·rcases view hj with ⟨a1,s0,a2,rfl⟩|⟨rfl,rfl⟩
  ·rw[Fo a1] at ho;rw[lo a1];exact D.fb j s0 a2 id o ho
  ·rw[Fn] at ho;rw[ln];rcases hFn id o ho with c|c
   ·rcases D.fb nc st hst id o c with d|d
    ·exact .inl d
    ·exact .inr (by omega)
   ·have:=Qz.flt ho;rw[nx'] at this;have:=D.hx;exact .inr (by omega)
 ·rcases view hj with ⟨a1,s0,a2,rfl⟩|⟨rfl,rfl⟩
  ·rw[lo a1];rw[fu] at hb;obtain ⟨c1,b0,c2⟩:=ju hb;rw[Rn k (nal c1)] at hi;rcases D.bb j s0 a2 k b0 c2 i hi with c|c|⟨q,c1,c2,c3⟩
   ·exact .inl c
   ·exact .inr (.inl c)
   ·exact .inr (.inr ⟨q,c1,by omega,c3⟩)
  ·rw[ln];rw[fu] at hb;rcases Qb hb i hi with ⟨c1,b0,c2,c3⟩|c
   ·rcases D.bb nc st hst k b0 c2 i c3 with c|c|⟨q,c4,c5,c6⟩
    ·exact .inl c
    ·exact .inr (.inl (by omega))
    ·exact .inr (.inr ⟨q,c4,by omega,c6⟩)
   ·have:=Qz.lt hb i hi;rw[nx'] at this;have:=D.hx;exact .inr (.inl (by omega))
 ·rw[nx'];rcases view hj with ⟨a1,s0,a2,rfl⟩|⟨rfl,rfl⟩
  ·rw[lo a1];have:=D.lm j s0 a2;omega
  ·rw[ln];have:=D.hx;omega
 ·have hq0:h.hp.get (base+q)=none:=D.em q (by omega) hq'
  rw[fL (base+q) (by have:=D.hx;omega) fun K k b m1 m2 hc=>(rt.bx K b m2).there _ hc hq0]
  exact hq0
 ·rcases List.mem_cons.1 hq with rfl|hq
  ·refine ⟨rfl,Nat.lt_succ_self _,Nat.le_refl _,fun hc=>(by cases hc),fun _=>⟨rfl,D.hx,?_,fun j s' hj hlt=> ?_⟩⟩
   ·rw[nx'];exact Nat.le_of_eq e2
   ·rcases view hj with ⟨a1,s0,a2,rfl⟩|⟨rfl,rfl⟩
    ·rw[lo a1];exact (D.lm j s0 a2).2
    ·have hlt:nc+1<nc+1:=hlt;omega
  ·obtain ⟨p1,p2,p3,p4,p5⟩:=D.pi q hq;refine ⟨p1,by omega,by omega,p4,fun hn=> ?_⟩
   obtain ⟨a1,a2,a3,a4⟩:=p5 hn;refine ⟨a1,a2,by rw[nx'];omega,fun j s' hj hlt=> ?_⟩
   rcases view hj with ⟨c1,s0,c2,rfl⟩|⟨rfl,rfl⟩
   ·rw[lo c1];exact a4 j s0 c2 hlt
   ·omega
 ·rw[nx'];rcases List.mem_cons.1 hq with rfl|hq
  ·rcases hid with c|c
   ·cases c
   ·obtain ⟨c0,k,_,b,c1,c2⟩:=hwr id c;rcases D.bb nc st hst k b c1 id c2 with d|d|⟨q,d1,d2,d3⟩
    ·exact .inl d
    ·exact .inr (.inl (by omega))
    ·exact .inr (.inr ⟨q,(show q<=cur by omega),d3⟩)
  ·rcases D.po q hq id hid with c|c|c
   ·exact .inl c
   ·exact .inr (.inl (by omega))
   ·exact .inr (.inr c)
 ·rcases List.mem_cons.1 hq with rfl|hq
  ·refine ⟨fun hc=>(by cases hc),fun hc=> ?_⟩
   obtain ⟨c0,k0,hk0,b0,c1,c2⟩:=hwr i hc;rcases view hj with ⟨a1,s0,a2,rfl⟩|⟨rfl,rfl⟩
   ·rw[fu] at hb;obtain ⟨d1,b1,d2⟩:=ju hb;rw[Rn k (nal d1)] at hi;obtain ⟨b2,d3⟩:=Rl a2 d2;have e:k=k0:=Classical.byContradiction fun hne=>rt.dj k k0 b2 b0 d3 c1 hne i hi c2
    rw[e];exact hk0
   ·rw[fu] at hb;rcases Qb hb i hi with ⟨_,b1,d2,d3⟩|d
    ·have e:k=k0:=Classical.byContradiction fun hne=>rt.dj k k0 b1 b0 d2 c1 hne i d3 c2
     rw[e];exact hk0
    ·omega
  ·rcases view hj with ⟨a1,s0,a2,rfl⟩|⟨rfl,rfl⟩
   ·rw[fu] at hb;obtain ⟨d1,b1,d2⟩:=ju hb;rw[Rn k (nal d1)] at hi;exact D.pr q hq j s0 a2 k b1 d2 i hi
   ·rw[fu] at hb;rcases Qb hb i hi with ⟨_,b1,d2,d3⟩|dge
    ·exact D.pr q hq nc st hst k b1 d2 i d3
    ·have hno:¬(i∈q.1.rd\/i∈q.1.wr):=fun hc=>by
      have:=D.hx;obtain ⟨_,p2,_⟩:=D.pi q hq;rcases D.po q hq i hc with d|d|⟨j',d1,d2⟩<;>omega
     exact ⟨fun hc=>absurd (.inl hc) hno,fun hc=>absurd (.inr hc) hno⟩
 ·rcases List.mem_cons.1 hq with rfl|hq
  ·obtain ⟨c0,k0,hk0,b0,c1,c2⟩:=hwr i hi;rcases view hj with ⟨a1,s0,a2,rfl⟩|⟨rfl,rfl⟩
   ·rw[Fo a1];cases hf:Fs j i with
    |none=>rfl
    |some o=>
     have:=(D.up j nc s0 st a1 a2 hst).1 i o hf;rw[rt.nf k0 b0 c1 i c2] at this;cases this
   ·rw[Fn];cases hf:F' i with
    |none=>rfl
    |some o=>
     rcases hFn i o hf with c|c
     ·rw[rt.nf k0 b0 c1 i c2] at c;cases c
     ·omega
  ·rcases view hj with ⟨a1,s0,a2,rfl⟩|⟨rfl,rfl⟩
   ·rw[Fo a1];exact D.pf q hq i hi j s0 a2
   ·rw[Fn];cases hf:F' i with
    |none=>rfl
    |some o=>
     rcases hFn i o hf with c|c
     ·rw[D.pf q hq i hi nc st hst] at c;cases c
     ·have:=D.hx;obtain ⟨_,p2,_⟩:=D.pi q hq;rcases D.po q hq i (.inr hi) with d|d|⟨j',d1,d2⟩<;>omega
 ·rcases List.mem_cons.1 hq with rfl|hq
  ·cases hn
  ·exact D.pw q hq hn
end
section
variable {F F':Hf} {g g':Gb} {B:Bs} {φ:Nat->List Nat} {s s' s1:LS} {tm:Tr SV} {h:Hs} {hp:Hf} {E:Env} {nt:Nat}
variable {W cur nc M:Nat} {vs vs':List LS} {laid:bt} {pis:List PI} {all l:List Oper} {o:Oper}
def dC (E:Env) (nt:Nat) (B:Bs) (all:List Oper) (W cur nc M:Nat) (vs:List LS) (laid:bt) (pis:List PI) (l:List Oper) (s':LS):Prop:=
 ∀{base:Nat} {pp:List (Rc×PI)} {g:Gb} {φ:Nat->List Nat} {Fs:Nat->Hf} {lim:Nat->Nat} {tm:Tr SV} {h:Hs},pp.map (·.2)=pis->DR B base W cur nc vs laid pp g φ Fs lim tm.get h->∃F' g' φ' tm' h',Rel B F' g' φ' s' (Tr.get tm') h'/\bw E (.draw nt W all base cur M (pp.map (·.1)) l tm h) (.st tm' h')
theorem dC.nil (hs:vs[nc]? =some s'):dC E nt B all W cur nc M vs laid pis [] s':=fun {base pp g φ Fs lim tm h} _ D=>⟨Fs nc,g,φ,tm,h,D.r nc s' hs,.aeR⟩
theorem dC.skip {st:LS} (fB:cur<W) (hd:(cK nt o.dst&&gq cur (dN o))=true) (hst:vs[nc]? =some st) (hw:jo all o st.ts=some false)
  (hl:dC E nt B all W (cur+1) nc (mi W M cur (cE W M o)) (vs.map fun s=>s.bB o.dst (.tup [])) laid (⟨cur,0,[],[],true⟩::pis) l s'):dC E nt B all W cur nc M vs laid pis (o::l) s':=fun {base pp g φ Fs lim tm h} hp D=>by
 obtain ⟨hi,D2⟩:=D.skip (d:=o.dst) (m:=cE W M o) fB;obtain ⟨F',g',φ',tm',h',r',go⟩:=hl (by rw[List.map_cons,hp]) D2
 exact ⟨F',g',φ',tm',h',r',.ZV hd (pC (D.r nc st hst) hw) hi go⟩
theorem dC.op {x:AV} {Wk:WK} {st sl:LS} {rk:List Nat} {v:Nat} (fB:cur<W) (hd:(cK nt o.dst&&gq cur (dN o))=true) (hst:vs[nc]? =some st) (hw:jo all o st.ts=some true) (hc:dB o.op=none) (hl:vs[v]? =some sl) (hlen:vs'.length=vs.length)
  (hOK:∀j s,vs[j]? =some s->v<=j->∃t,vs'[j]? =some (t.bB o.dst x)/\aP E B o.op s t x Wk) (D6:∀j s,vs[j]? =some s->j<v->vs'[j]? =some ((s.oT Wk).bB o.dst .undef))
  (hrk:s9 sl.ts sl.bs o.op=some rk) (nD:∀k j,(k∈rk\/k∈la Wk)->(k,j)∈laid->eu (cE W M o) j=true) (sf:∀q∈pis,yS v (cE W M o) rk (la Wk) false (vu Wk) q)
  (hn:dC E nt B all W (cur+1) nc (mi W M cur (cE W M o)) vs' (Ga Wk cur laid) (⟨cur,0,rk,la Wk,vu Wk⟩::pis) l s'):dC E nt B all W cur nc M vs laid pis (o::l) s':=fun {base pp g φ Fs lim tm h} hp D=>by
 obtain ⟨u,us,o1,o2,g',φ',D2⟩:=D.op fB hl hlen hOK D6 hrk nD fun q hq=>sf q.2 (by rw[<-hp];exact List.mem_map.2 ⟨q,hq,rfl⟩)
 obtain ⟨F2,g2,φ2,tm',h',r',go⟩:=hn (by rw[List.map_cons,hp]) D2
 exact ⟨F2,g2,φ2,tm',h',r',.aeQ hd (pC (D.r nc st hst) hw) hc o1 o2 go⟩
theorem dC.call {c:Call} {w:Operand} {f:Nat} {st:LS} {ps rs:bt} {bs bs' ob:List (Nat×Bx)} {fi ca xs:List AV} {y:AV} (fB:cur<W) (hd:(cK nt o.dst&&gq cur (dN o))=true) (hst:vs[nc]? =some st) (hw:jo all o st.ts=some true) (hc:dB o.op=some c) (hf:c.callee= .value w) (hfv:aL st.ts w= .fn f fi ca) (hxs:fi++fO st.ts c.args.toList++ca=xs) (hu:eQ (fO st.ts c.args.toList)=true)
  (hg:oW (ps++rs)=true) (hps:oN st.bs (ps++rs) ps=some bs) (hkb:oS st.bs ps ps=true) (hkx:eT ps (cQ xs)=true) (hrs:∀q∈rs,st.free q.1/\B.pk q.1=false/\lk q.1 st.bs=none) (hC:aZ E f bs (g7 (fiP (ps++rs)) xs) y bs') (hob:tW bs' (ps++rs) (ps++rs)=some ob) (hko:oQ bs' (ps++rs) (ps++rs)=true) (hky:eT (jR (ps++rs)) (bV y)=true)
  (nD:∀k j,k∈ps.map (·.1)->(k,j)∈laid->eu (cE W M o) j=true) (sf:∀q∈pis,yS nc (cE W M o) [] (ps.map (·.1)) true false q)
  (hn:dC E nt B all W (cur+1) (nc+1) (mi W M cur (cE W M o)) ((vs.map fun s=>(s.oU ps rs).bB o.dst .undef)++ [LS.bB ⟨st.ts,ob++st.bs⟩ o.dst (jP (foP (ps++rs)) y)]) laid (⟨cur,nc+1,[],ps.map (·.1),false⟩::pis) l s'):dC E nt B all W cur nc M vs laid pis (o::l) s':=fun {base pp g φ Fs lim tm h} hp D=>by
 subst hxs;have rt:=D.r nc st hst;obtain ⟨aa,a1,a2⟩:=rt.bT hu;obtain ⟨fv,f1,f2⟩:=rt.val hfv (by simp)
 obtain ⟨fs,cs,rfl,k1,k2⟩:∃fs cs,fv= .fn (.func f) fs cs/\VAs (Fs nc) g fs fi/\VAs (Fs nc) g cs ca:=by
  cases f2 with
  |fn _ h1 h2=>exact ⟨_,_,rfl,h1,h2⟩
 replace a2:=(k1.append a2).append k2;obtain ⟨u,h2,go,hi,g',φ',Fs',DW,D2⟩:=D.call (d:=o.dst) (m:=cE W M o) fB hst hg hps hkb hkx a2 hrs hC hob hko hky nD fun q hq=>sf q.2 (by rw[<-hp];exact List.mem_map.2 ⟨q,hq,rfl⟩)
 obtain ⟨F2,g2,φ2,tm',h',r',go2⟩:=hn (by rw[List.map_cons,hp]) D2
 exact ⟨F2,g2,φ2,tm',h',r',.ZY hd (pC rt hw) hc (by rw[hf];exact f1) a1 go.dE hi go2⟩
theorem Wk.drawn {id:Nat} {ops:Array Oper} {ks:List KI} {Q:Ex->LS->Prop} (hl:dC E nt B ops.toList ops.size 0 0 0 [s] [] [] ops.toList s1) (hk:WkO E nt B .normal ks s1 Q):Wk E nt B (.region id ops true) ks s Q:=fun {F g φ tm h} r=>by
 have view:∀{j:Nat} {s':LS},[s][j]? =some s'->j=0/\s'=s:=fun {j s'} hj=>by
  cases j with
  |zero=>cases hj;exact ⟨rfl,rfl⟩
  |succ j=>simp at hj
 have D:DR B h.nx ops.size 0 0 [s] [] [] g φ (fun _=>F) (fun _=>h.nx+ops.size) tm.get ⟨h.hp,Nat.add h.nx ops.size,h.lg⟩:=by
  have hn:h.nx<=Nat.add h.nx ops.size:=Nat.le_add_right _ _;refine ⟨fun j s' hj=> ?_,fun j j' s1 s2 _ h1 h2=> ?_,fun j s' hj id o ho=>.inl (r.flt ho),fun j s' hj k b hb i hi=> ?_,fun j s' hj=>⟨Nat.le_refl _,Nat.le_refl _⟩,rfl,Nat.le_refl _,fun q _ _=>r.bd _ (Nat.le_add_right _ _),r.nx,fun q hq=>(by cases hq),fun q hq=>(by cases hq),fun q hq=>(by cases hq),fun q hq=>(by cases hq),fun q hq=>(by cases hq)⟩
  ·obtain ⟨_,rfl⟩:=view hj;exact {r with bd:=fun x hx=>r.bd x (Nat.le_trans hn hx),nx:=Nat.le_trans r.nx hn}
  ·obtain ⟨_,rfl⟩:=view h1;obtain ⟨_,rfl⟩:=view h2;exact ⟨Hle.refl _,fun k b hb=>⟨b,hb⟩⟩
  ·obtain ⟨_,rfl⟩:=view hj;exact .inl (r.lt hb i hi)
 obtain ⟨F',g',φ',tm',h',r',go⟩:=hl rfl D;exact ⟨_,_,_,.drawn go,hk r'⟩
end
section
variable {F F':Hf} {g g':Gb} {B:Bs} {φ:Nat->List Nat} {s s' s1:LS} {tm:Tf} {h:Hs} {hp:Hf} {E:Env} {nt:Nat} {all l:List Oper}
abbrev Ob:=AV×AV
def cz:List Ob->Prop
 | []=>True
 |p::l=>p.1=p.2/\cz l
def Lw:List Ob->List AV
 | []=> []
 |p::l=>p.1::Lw l
def JN:List Ob->List AV
 | []=> []
 |p::l=>p.2::JN l
theorem KA:∀{l:List Ob},Lw l=JN l->cz l
 | [],_=>trivial
 |p::l,h=>by
  have h:p.1::Lw l=p.2::JN l:=h;injection h with h1 h2
  exact ⟨h1,KA h2⟩
theorem jk:∀{l m:List Ob},cz (l++m)->cz l/\cz m
 | [],_,h=>⟨trivial,h⟩
 |p::l,m,h=>by
  obtain ⟨h1,h2⟩:=h;obtain ⟨h3,h4⟩:=jk h2;exact ⟨⟨h1,h3⟩,h4⟩
def Gj (K:Nat):List (Nat×AV)->Bool
 | []=>true
 |p::l=>sel (eh K (bV p.2)) false (Gj K l)
def xK (K:Nat):List (Nat×Bx)->Bool
 | []=>true
 |p::l=>sel (Nat.beq p.1 K) (xK K l) (sel (eh K p.2.keys) false (xK K l))
theorem DN {K:Nat} {l:List Nat} (h:eh K l=false):K∉l:=fun hm=>by
 rw[(lI K l).2 hm] at h;cases h
theorem Ly {K:Nat}:∀{ts:List (Nat×AV)},Gj K ts=true->∀t x,lk t ts=some x->K∉bV x
 | [],_,t,x,hx=>by cases hx
 |(k,y)::l,hf,t,x,hx=>by
  have hf:sel (eh K (bV y)) false (Gj K l)=true:=hf;rw[aW] at hx;rw[aC] at hf;split at hf
  ·cases hf
  ·rename_i hm;split at hx
   ·cases hx;exact DN (by simpa using hm)
   ·exact Ly hf t x hx
theorem Aa {K:Nat}:∀{bs:List (Nat×Bx)},xK K bs=true->∀k b,k≠K->lk k bs=some b->K∉b.keys
 | [],_,k,b,_,hx=>by cases hx
 |p::l,hf,k,b,hne,hx=>by
  obtain ⟨k',b'⟩:=p;have hf:sel (Nat.beq k' K) (xK K l) (sel (eh K b'.keys) false (xK K l))=true:=hf;rw[aW] at hx;rw[aC] at hf;split at hf
  ·rename_i he;have he:k'=K:=(beq_iff _ _).1 he;rw[if_neg (fun e=>hne (e.trans he))] at hx
   exact Aa hf k b hne hx
  ·rw[aC] at hf;split at hf
   ·cases hf
   ·rename_i hm;split at hx
    ·cases hx;exact DN (by simpa using hm)
    ·exact Aa hf k b hne hx
def iF (pks:List Nat) (s:LS) (K:Nat):Bool:=sel (eh K pks) false (sel (Gj K s.ts) (xK K s.bs) false)
theorem kh {pks:List Nat} {K:Nat} (hB:BOK pks B) (hf:iF pks s K=true):s.free K/\B.pk K=false:=by
 unfold iF at hf;rw[aC] at hf;split at hf
 ·cases hf
 ·rename_i h1;rw[aC] at hf;split at hf
  ·rename_i h2;exact ⟨⟨Ly h2,Aa hf⟩,hB K (by simpa using h1)⟩
  ·cases hf
def RG (i:TI) (ok:Bool):Option AV:=sel ok (aj (gi i (dY i.zero) 0) fun z=>some (.tup [z,.bool false])) none
def xW (t:TypeId) (i:TI) (ok:Bool) (x:AV):Option AV:=
 match x with
 | .ifc t2 u=>sel (Nat.beq t2 t) (some (okM ok u true)) (RG i ok)
 | .cW=>RG i ok
 |_=>none
theorem Pn {i:TI} {ok:Bool} {x:AV} (h:RG i ok=some x):∃u,uB i ok=some u/\VA F g u x:=by
 obtain ⟨h1,h⟩:=ar h;subst h1;obtain ⟨z,hz,h⟩:=af h;cases h;obtain ⟨u,u1,u2⟩:=jL (jn (F:=F) (g:=g) i.zero) hz;exact ⟨.tup [u,.bool false],by show aj (cO i i.zero 0) (fun z=>some (SV.tup [z,.bool false]))=_;rw[u1];rfl,.tup (.cons u2 (.cons (.bool false) .nil))⟩
theorem Xv {t:TypeId} {i:TI} {ok:Bool} {v:SV} {x y:AV} (hv:VA F g v x) (h:xW t i ok x=some y):∃u,asserted v t i ok=some u/\VA F g u y:=by
 unfold xW at h;split at h
 ·rename_i t2 u;cases hv with
  | @ifc _ _ v' _ hv=>
  rw[aC] at h;split at h
  ·rename_i he;cases h;refine ⟨okV ok v' true,?_,Kx hv⟩;show sel (Nat.beq t2 t) (some (okV ok v' true)) (uB i ok)=_;rw[he]
  ·rename_i he;obtain ⟨w,w1,w2⟩:=Pn (F:=F) (g:=g) h;refine ⟨w,?_,w2⟩;show sel (Nat.beq t2 t) (some (okV ok v' true)) (uB i ok)=_;cases hb:Nat.beq t2 t with
   |true=>exact absurd hb he
   |false=>exact w1
 ·cases hv;exact Pn h
 ·cases h
theorem Wt {a:Operand} {xt t:TypeId} {ok:Bool} {i:TI} {x y:AV} (hi:E.ty.get t=some i) (hd:nC i.desc=false) (ha:aL s.ts a=x) (hx:xW t i ok x=some y):aP E B (.typeAssert a xt t ok) s s y none:=aP.un (f:=fun _=>qh E t ok) (fun _ _ _=>rfl) ha (fun e=>by subst e;cases hx) fun {F g φ tm h v} r hv=>by
 obtain ⟨u,u1,u2⟩:=Xv hv hx;refine ⟨u,?_,u2⟩;show aj (E.ty.get t) (fun i=>sel (nC i.desc) none (same (asserted v t i ok)))=_
 rw[hi];show sel (nC i.desc) none (same (asserted v t i ok))=_;rw[hd,u1];rfl
def arrE:UD->Option (Nat×TypeId)
 | .array n e=>some (n,e)
 |_=>none
theorem Xw {d:UD} {q:Nat×TypeId} (h:arrE d=some q):d= .array q.1 q.2:=by
 cases d<;>first|(cases h;done)|(cases h;rfl)
def KY (E:Env) (t:TypeId) (x y:AV):Option AV:=
 match x,y with
 | .agg cs,.int _ (.ofNat k)=>aj (E.ty.get t) fun i=>aj (arrE i.desc) fun q=>aj (E.ty.get q.2) fun ie=>sel (Nat.ble (Nat.succ k) q.1) (gi ie cs (Nat.mul k ie.size)) none
 |_,_=>none
theorem N3 {t:TypeId} {a ix:Operand} {x y z:AV} (ha:aL s.ts a=x) (hix:aL s.ts ix=y) (hx:KY E t x y=some z):aP E B (.index t a ix) s s z none:=by
 unfold KY at hx;split at hx
 ·rename_i cs kk k;obtain ⟨i,hi,hx⟩:=af hx;obtain ⟨q,hq,hx⟩:=af hx;obtain ⟨ie,hie,hx⟩:=af hx;obtain ⟨hk,hx⟩:=ar hx;refine aP.bi (f:=fun _ v u=>aj (eW u) fun k=>jM E t k v) (fun _ _ _=>rfl) ha (by simp) hix (by simp) fun {F g φ tm h v w} r hv hw=> ?_
  cases hv with
  |agg hv=>
  cases hw;obtain ⟨u,u1,u2⟩:=jL hv hx;refine ⟨u,?_,u2⟩;show jM E t k _=_;unfold jM;rw[cY hi,Xw hq];show aG (some _) (E.ty.get q.2) (fun cs ie=>sel (Nat.ble (Nat.succ k) q.1) (same (cO ie cs (Nat.mul k ie.size))) none)=_
  rw[lQ rfl hie,hk,u1];rfl
 ·cases hx
abbrev Res:=LS×AV×WK×List Ob
def eX (E:Env) (B:Bs) (op:Op) (s:LS) (r:Res):Prop:=cz r.2.2.2->aP E B op s r.1 r.2.1 r.2.2.1
def ndf (x:AV):Option AV:=sel (pN x) none (some x)
theorem mV {x y:AV} (h:ndf x=some y):x=y/\x≠ .undef:=by
 unfold ndf at h;cases hx:pN x with
 |true=>rw[hx] at h;cases h
 |false=>rw[hx] at h;cases h;exact ⟨rfl,Bz hx⟩
def Kd (E:Env) (s:LS) (op:Op):Option AV:=
 match op with
 | .move a=>ndf (aL s.ts a)
 | .assign a=>ndf (aL s.ts a)
 | .pick c a b=>(match aL s.ts c with| .bool t=>ndf (aL s.ts (sel t a b))|_=>none)
 | .nilCheck a=>sel (adk (aL s.ts a)) (some (aL s.ts a)) none
 | .load t a=>aj (E.ty.get t) fun i=>F7 i s.bs (aL s.ts a)
 | .fieldAddr t a f=>aj (tf E t f) fun p=>Xc p (aL s.ts a)
 | .field t a f=>aj (tf E t f) fun p=>(match aL s.ts a with| .agg cs=>gi p.2 cs p.1|_=>none)
 | .extract a i=>(match aL s.ts a with| .tup xs=>xs[i]? |_=>none)
 | .binOp op t a b _=>aj (ndf (aL s.ts b)) fun y=>Sj E op t a b (aL s.ts a) y
 | .unOp op _ a=>unL op (aL s.ts a)
 | .convert src dst a=>aG (E.ty.get src) (E.ty.get dst) fun _ i2=>Gv i2.desc (aL s.ts a)
 | .makeInterface t a=>aj (E.ty.get t) fun i=>sel (nC i.desc) none (aj (ndf (aL s.ts a)) fun x=>some (.ifc t x))
 | .makeFunc (.func f) a c=>sel (eQ (fO s.ts a.toList)) (sel (eQ (fO s.ts c.toList)) (some (.fn f (fO s.ts a.toList) (fO s.ts c.toList))) none) none
 | .build t parts=>aG (E.ty.get t) (sU s.ts parts.toList) fun i m=>aj (L7 E (dY i.zero) m i.desc) fun ys=>some (.agg ys)
 | .index t a ix=>KY E t (aL s.ts a) (aL s.ts ix)
 | .typeAssert a _ t ok=>aj (E.ty.get t) fun i=>sel (nC i.desc) none (xW t i ok (aL s.ts a))
 |_=>none
theorem Ve {op:Op} {x:AV} (hx:Kd E s op=some x):aP E B op s s x none:=by
 unfold Kd at hx;split at hx
 ·obtain ⟨h1,h2⟩:=mV hx;subst h1;exact aey rfl h2
 ·obtain ⟨h1,h2⟩:=mV hx;subst h1;exact Ws rfl h2
 ·split at hx
  ·rename_i hc;obtain ⟨h1,h2⟩:=mV hx;subst h1;exact aew hc rfl h2
  ·cases hx
 ·obtain ⟨h1,hx⟩:=ar hx;cases hx;exact NY rfl h1
 ·obtain ⟨i,hi,hx⟩:=af hx;exact aez hi rfl hx
 ·obtain ⟨i,hi,hx⟩:=af hx;exact Kw hi rfl hx
 ·obtain ⟨i,hi,hx⟩:=af hx;split at hx
  ·rename_i ha;exact YH hi ha hx
  ·cases hx
 ·split at hx
  ·rename_i ha;exact QK ha hx
  ·cases hx
 ·obtain ⟨y,hy,hx⟩:=af hx;obtain ⟨h1,h2⟩:=mV hy;subst h1;exact agb rfl rfl h2 hx
 ·exact aim rfl hx
 ·obtain ⟨i,i2,h1,h2,hx⟩:=az hx;exact aeC h1 h2 rfl hx
 ·obtain ⟨i,hi,hx⟩:=af hx;rw[aC] at hx;split at hx
  ·cases hx
  ·rename_i hd;obtain ⟨y,hy,hx⟩:=af hx;obtain ⟨h1,h2⟩:=mV hy;subst h1;cases hx;exact afX hi (by simpa using hd) rfl h2
 ·obtain ⟨h1,hx⟩:=ar hx;obtain ⟨h2,hx⟩:=ar hx;cases hx;exact aeA rfl h1 rfl h2
 ·obtain ⟨i,m,h1,h2,hx⟩:=az hx;obtain ⟨ys,h3,hx⟩:=af hx;cases hx;exact YI h1 h2 h3
 ·exact N3 rfl rfl hx
 ·obtain ⟨i,hi,hx⟩:=af hx;rw[aC] at hx;split at hx
  ·cases hx
  ·rename_i hd;exact Wt hi (by simpa using hd) rfl hx
 ·cases hx
def vQ (E:Env) (s:LS) (K:Nat) (op:Op):Option (Bx×AV):=
 match op with
 | .box e a=>aj (iK (aL s.ts a)) fun xs=>sel (eh K (cQ xs)) none (some (.flat e xs,.loc K 0))
 | .alloc e=>aj (E.ty.get e) fun i=>some (.flat e (dY i.zero),.loc K 0)
 | .buildSlice t len parts=>aG (iI E t) (sU s.ts parts.toList) fun p m=>sel (dP p.2&&Nat.ble (Nat.mul len p.2.size) 16777216) (aj (uA (jb p.2.size) (tS (dY p.2.zero) len) m) fun ys=>sel (cQ ys).isEmpty (some (.rows false p.1 p.2.size (mF p.2.size len ys),.ms K p.2.size 0 len)) none) none
 | .makeMap _ none=>some (.map [],.mp K)
 | .range t a=>aj (E.ty.get t) fun i=>sel (nX i.desc) (match aL s.ts a with| .str b=>some (.iter b 0,.it K)|_=>none) none
 |_=>none
theorem EY {op:Op} {K:Nat} {p:Bx×AV} (hk:s.free K) (hp:B.pk K=false) (hx:vQ E s K op=some p):aP E B op s (s.set K p.1) p.2 (some (K,true)):=by
 unfold vQ at hx;split at hx
 ·obtain ⟨xs,h1,hx⟩:=af hx;rw[aC] at hx;split at hx
  ·cases hx
  ·rename_i hm;cases hx;exact aga rfl h1 hk hp (DN (by simpa using hm))
 ·obtain ⟨i,h1,hx⟩:=af hx;cases hx;exact YJ h1 hk hp
 ·obtain ⟨q,m,h1,h2,hx⟩:=az hx;obtain ⟨h3,hx⟩:=ar hx;obtain ⟨ys,h4,hx⟩:=af hx;obtain ⟨h5,hx⟩:=ar hx;cases hx;exact FK h1 h3 h2 h4 hk hp h5
 ·cases hx;exact QH hk hp
 ·obtain ⟨i,h1,hx⟩:=af hx;obtain ⟨h2,hx⟩:=ar hx;split at hx
  ·rename_i ha;cases hx;exact YF h1 h2 ha hk hp
  ·cases hx
 ·cases hx
def Kc (E:Env) (s:LS) (op:Op):Option (Nat×Bx):=
 match op with
 | .store t a c=>aj (E.ty.get t) fun i=>(match aL s.ts a with
  | .loc K off=>aj (iK (aL s.ts c)) fun xs=>(match lk K s.bs with
   |some (.flat e cs)=>sel (Nat.beq xs.length i.size&&Nat.ble (Nat.add off xs.length) cs.length) (some (K,.flat e (cq cs off xs))) none
   |_=>none)
  |_=>none)
 |_=>none
theorem Vd {op:Op} {p:Nat×Bx} (hx:Kc E s op=some p):aP E B op s (s.set p.1 p.2) (.tup []) (some (p.1,false)):=by
 unfold Kc at hx;split at hx
 ·obtain ⟨i,h1,hx⟩:=af hx;split at hx
  ·rename_i ha;obtain ⟨xs,h2,hx⟩:=af hx;split at hx
   ·rename_i hb;obtain ⟨h3,hx⟩:=ar hx;cases hx;exact YE h1 ha rfl h2 hb h3
   ·cases hx
  ·cases hx
 ·cases hx
def Kb (E:Env) (s:LS) (op:Op):Option AV:=
 match op with
 | .call c=>(match c.callee with
  | .builtin .len=>(match c.args.toList,c.argTypes.toList with
   | [a],[t]=>aj (E.ty.get t) fun i=>aj (QV s.bs i.desc (aL s.ts a)) fun n=>some (.int .i64 n)
   |_,_=>none)
  | .builtin .min=>(match c.args.toList with
   | [a,b]=>YP false (aL s.ts a) (aL s.ts b)
   |_=>none)
  | .builtin .max=>(match c.args.toList with
   | [a,b]=>YP true (aL s.ts a) (aL s.ts b)
   |_=>none)
  |_=>none)
 |_=>none
theorem Vc {op:Op} {x:AV} (hx:Kb E s op=some x):aP E B op s s x none:=by
 unfold Kb at hx;split at hx
 ·split at hx
  ·rename_i mw;split at hx
   ·rename_i ha ht;obtain ⟨i,h1,hx⟩:=af hx;obtain ⟨n,h2,hx⟩:=af hx;cases hx;exact afW mw ha ht h1 rfl h2
   ·cases hx
  ·rename_i mw;split at hx
   ·rename_i ha;exact Wq (mx:=false) mw ha rfl rfl hx
   ·cases hx
  ·rename_i mw;split at hx
   ·rename_i ha;exact Wq (mx:=true) mw ha rfl rfl hx
   ·cases hx
  ·cases hx
 ·cases hx
def Ka (E:Env) (s:LS) (op:Op):Option Res:=
 match op with
 | .load t a=>aj (E.ty.get t) fun i=>sel (eG i.desc) none (match aL s.ts a with
  | .el K sz j f=>(match lk K s.bs with
   |some (.hole _ sz' _ i0 x)=>sel (Nat.beq sz' sz) (some (s,x,none,[(.loc 0 (Nat.add (Nat.mul j sz) f),.loc 0 i0)])) none
   |some (.own _ _ _ _ (some p))=>sel (Nat.beq 1 sz) (some (s,p.2,none,[(.loc 0 (Nat.add (Nat.mul j 1) f),.loc 0 p.1)])) none
   |_=>none)
  |_=>none)
 | .store t a c=>aj (E.ty.get t) fun i=>(match aL s.ts a,iK (aL s.ts c) with
  | .el K sz j f,some [x]=>(match lk K s.bs with
   |some (.own e e' s' Q (some p))=>sel (Nat.beq 1 sz&&Nat.beq 1 i.size) (some (s.set K (.own e e' s' Q (some (p.1,x))),.tup [],some (K,false),[(.loc 0 (Nat.add (Nat.mul j 1) f),.loc 0 p.1)])) none
   |_=>none)
  |_,_=>none)
 |_=>none
theorem Vb {op:Op} {r:Res} (hr:Ka E s op=some r):eX E B op s r:=by
 intro ho;unfold Ka at hr;split at hr
 ·obtain ⟨i,h1,hr⟩:=af hr;rw[aC] at hr;split at hr
  ·cases hr
  ·rename_i hg;split at hr
   ·rename_i ha;split at hr
    ·rename_i hb;obtain ⟨h2,hr⟩:=ar hr;cases hr;have e1:=(beq_iff _ _).1 h2;have e2:=ho.1;injection e2 with _ e2
     subst e1;subst e2;exact N0 h1 (by simpa using hg) ha hb
    ·rename_i p hb;obtain ⟨h2,hr⟩:=ar hr;cases hr;have e1:=(beq_iff _ _).1 h2;have e2:=ho.1;injection e2 with _ e2
     obtain ⟨p1,p2⟩:=p;have e2:Nat.add (Nat.mul _ 1) _=p1:=e2;subst e1;subst e2;exact QJ h1 (by simpa using hg) ha hb
    ·cases hr
   ·cases hr
 ·obtain ⟨i,h1,hr⟩:=af hr;split at hr
  ·rename_i ha hx;split at hr
   ·rename_i p hb;obtain ⟨h2,hr⟩:=ar hr;cases hr;rw[Bool.and_eq_true] at h2;have e1:=(beq_iff _ _).1 h2.1;have e2:=ho.1;injection e2 with _ e2
    obtain ⟨p1,p2⟩:=p;have e2:Nat.add (Nat.mul _ 1) _=p1:=e2;subst e1;subst e2;exact NV h1 ha rfl hx hb h2.2
   ·cases hr
  ·cases hr
 ·cases hr
def nR (E:Env) (pks:List Nat) (s:LS) (op:Op) (d:Option Nat):Option Res:=
 match Kd E s op with
 |some x=>some (s,x,none,[])
 |none=>(match Kc E s op with
  |some p=>some (s.set p.1 p.2,.tup [],some (p.1,false),[])
  |none=>(match Kb E s op with
   |some x=>some (s,x,none,[])
   |none=>(match Ka E s op with
    |some r=>some r
    |none=>(match d with
     |some K=>sel (iF pks s K) (aj (vQ E s K op) fun p=>some (s.set K p.1,p.2,some (K,true),[])) none
     |none=>none))))
theorem qX {pks:List Nat} {op:Op} {d:Option Nat} {r:Res} (hB:BOK pks B) (hr:nR E pks s op d=some r):eX E B op s r:=by
 intro ho;unfold nR at hr;split at hr
 ·rename_i h1;cases hr;exact Ve h1
 ·split at hr
  ·rename_i h1;cases hr;exact Vd h1
  ·split at hr
   ·rename_i h1;cases hr;exact Vc h1
   ·split at hr
    ·rename_i h1;cases hr;exact Vb h1 ho
    ·split at hr
     ·obtain ⟨h1,hr⟩:=ar hr;obtain ⟨p,h2,hr⟩:=af hr;cases hr;obtain ⟨a,b⟩:=kh hB h1;exact EY a b h2
     ·cases hr
end
section
variable {F F':Hf} {g g':Gb} {B:Bs} {φ:Nat->List Nat} {s s' s1:LS} {tm:Tf} {h:Hs} {hp:Hf} {E:Env} {nt:Nat} {all l:List Oper}
def obI (a b:Int):Ob:=(.int .i64 a,.int .i64 b)
def obN (a b:Nat):Ob:=(.ms 0 0 0 a,.ms 0 0 0 b)
def obR (a b:List (List AV)):Ob:=(.slice 0 0 a,.slice 0 0 b)
def obS (a b:ByteArray):Ob:=(.str a,.str b)
def obM (a b:List (AV×AV)):List Ob:= [(.agg (a.map (·.1)),.agg (b.map (·.1))),(.agg (a.map (·.2)),.agg (b.map (·.2)))]
def LR (q:Option (List (List AV))):AV:=match q with|none=>.undef|some q=>.slice 0 0 q
def obO (a b:List (Option (List (List AV)))):Ob:=(.tup (a.map LR),.tup (b.map LR))
theorem Em:∀{a b:List (Option (List (List AV)))},a.map LR=b.map LR->a=b
 | [],[],_=>rfl
 | [],_::_,h=>by cases h
 |_::_,[],h=>by cases h
 |x::a,y::b,h=>by
  rw[List.map_cons,List.map_cons] at h;injection h with h1 h2
  rw[Em h2];cases x<;>cases y<;>first|rfl|(cases h1;done)|skip
  injection h1 with _ _ h1
  rw[h1]
theorem KB {a b:List (Option (List (List AV)))} (h:(obO a b).1=(obO a b).2):a=b:=by
 injection h with h
 exact Em h
theorem jE {a b:Int} (h:(obI a b).1=(obI a b).2):a=b:=by unfold obI at h;simpa using h
theorem ee {a b:Nat} (h:(obN a b).1=(obN a b).2):a=b:=by unfold obN at h;simpa using h
theorem eF {a b:List (List AV)} (h:(obR a b).1=(obR a b).2):a=b:=by unfold obR at h;simpa using h
theorem vS {a b:ByteArray} (h:(obS a b).1=(obS a b).2):a=b:=by unfold obS at h;simpa using h
theorem zL:∀{a b:List (AV×AV)},a.map (·.1)=b.map (·.1)->a.map (·.2)=b.map (·.2)->a=b
 | [],[],_,_=>rfl
 | [],_::_,h,_=>by cases h
 |_::_,[],h,_=>by cases h
 |(x,y)::a,(x',y')::b,h1,h2=>by
  rw[List.map_cons,List.map_cons,List.cons.injEq] at h1 h2;obtain ⟨h3,h4⟩:=h1;obtain ⟨h5,h6⟩:=h2;have h3:x=x':=h3;have h5:y=y':=h5;rw[h3,h5,zL h4 h6]
theorem Wv {a b:List (AV×AV)} {l:List Ob} (h:cz (obM a b++l)):a=b/\cz l:=by
 obtain ⟨h1,h2,h3⟩:=h;have h1:AV.agg (a.map (·.1))=AV.agg (b.map (·.1)):=h1
 have h2:AV.agg (a.map (·.2))=AV.agg (b.map (·.2)):=h2
 exact ⟨zL (by simpa using h1) (by simpa using h2),h3⟩
inductive Sr:List (List AV)->Type
 |dat {R:List (List AV)}:Sr R
 |box {Q R:List (List AV)} {lo n:Nat} (h:(Q.drop lo).take n=R) (hn:lo+n<=Q.length):Sr R
def Qm (s:LS) (sz:Nat) (y:AV) {R:List (List AV)} (sr:Sr R):Option (List Ob):=
 match sr with
 | .dat=>(match y with
  | .aU=>some [obR [] R]
  |y=>aj (kX y) fun q=>sel (Nat.beq q.2.1 sz) (some [obR q.2.2 R]) none)
 | @Sr.box Q _ lo n _ _=>(match y with
  | .ms K sz' lo' n'=>(match lk K s.bs with
   |some (.rows _ _ Yb Q')=>sel (Nat.beq sz' sz&&Nat.beq Yb sz) (some [obR Q' Q,obN lo' lo,obN n' n]) none
   |_=>none)
  |_=>none)
theorem Dt {sz:Nat} {y:AV} {R:List (List AV)} {sr:Sr R} {obs:List Ob} (h:Qm s sz y sr=some obs) (ho:cz obs):rO s sz y R:=by
 unfold Qm at h;cases sr with
 |dat=>
  dsimp only at h;split at h
  ·cases h;have:=eF ho.1;subst this;exact aek
  ·obtain ⟨⟨e,sz',R'⟩,h1,h⟩:=af h;obtain ⟨h2,h⟩:=ar h;cases h;have e1:R'=R:=eF ho.1;have e2:sz'=sz:=(beq_iff _ _).1 h2;subst e1;subst e2;exact Yg h1
 | @box Q _ lo n hR hn=>
  dsimp only at h;split at h
  ·rename_i K sz' lo' n';split at h
   ·rename_i z e Yb Q' hb;obtain ⟨h2,h⟩:=ar h;cases h;obtain ⟨o1,o2,o3,_⟩:=ho;have e1:=eF o1;have e2:=ee o2;have e3:=ee o3;rw[Bool.and_eq_true] at h2;have e4:sz'=sz:=(beq_iff _ _).1 h2.1;have e5:Yb=sz:=(beq_iff _ _).1 h2.2;subst e1;subst e2;subst e3;subst e4;subst e5;exact ael hb hR hn
   ·cases h
  ·cases h
def Q8 (E:Env) (s:LS) (rows:List (List AV)) (n:Int) (R:List AV) (op:Op):Option Res:=
 match op with
 | .indexAddr t a ix=>aG (elemOf E t) (kX (aL s.ts a)) fun ie q=>(match aL s.ts ix with
  | .int _ n'=>sel (Nat.beq ie.size q.2.1) (some (s,.imm R,none,[obR q.2.2 rows,obI n' n])) none
  |_=>none)
 |_=>none
theorem Y7 {rows:List (List AV)} {n:Int} {R:List AV} {op:Op} {r:Res} (hR:ke rows n=some R) (h:Q8 E s rows n R op=some r):eX E B op s r:=by
 unfold Q8 at h;split at h
 ·obtain ⟨ie,⟨e,sz,rows'⟩,h1,h2,h⟩:=az h;split at h
  ·rename_i hix;obtain ⟨h3,h⟩:=ar h;cases h;intro ho;obtain ⟨o1,o2,_⟩:=ho;have e1:rows'=rows:=eF o1;have e2:=jE o2;subst e1;subst e2;exact YG h1 ((beq_iff _ _).1 h3) rfl h2 hix hR
  ·cases h
 ·cases h
def Q9 (E:Env) (s:LS) (n k:Nat) (m:Int) (op:Op):Option Res:=
 match op with
 | .indexAddr t a ix=>aj (elemOf E t) fun ie=>(match aL s.ts a,aL s.ts ix with
  | .ms K sz lo n',.int _ m'=>sel (Nat.beq ie.size sz) (some (s,.el K sz (Nat.add lo k) 0,none,[obN n' n,obI m' m])) none
  |_,_=>none)
 |_=>none
theorem Y8 {n k:Nat} {m:Int} {op:Op} {r:Res} (hm:m=(k:Int)) (hk:k<n) (h:Q9 E s n k m op=some r):eX E B op s r:=by
 unfold Q9 at h;split at h
 ·obtain ⟨ie,h1,h⟩:=af h;split at h
  ·rename_i ha hix;obtain ⟨h3,h⟩:=ar h;cases h;intro ho;obtain ⟨o1,o2,_⟩:=ho;have e1:=ee o1;have e2:=jE o2;subst e1;subst e2;exact N2 h1 ((beq_iff _ _).1 h3) ha hix hm hk
  ·cases h
 ·cases h
def Q5 (E:Env) (s:LS) (Q:List (List AV)) (j:Nat) (R:List AV) (op:Op):Option Res:=
 match op with
 | .load t a=>aj (E.ty.get t) fun i=>(match aL s.ts a with
  | .el K sz j' f=>(match lk K s.bs with
   |some (.rows _ _ sz' Q')=>sel (Nat.beq sz sz'&&Nat.ble (Nat.add f i.size) sz) (aj (gi i ((R.drop f).take i.size) 0) fun x=>sel (bV x).isEmpty (some (s,x,none,[obR Q' Q,obN j' j])) none) none
   |some (.hole _ sz' Q' _ _)=>sel (Nat.beq sz sz'&&Nat.ble (Nat.add f i.size) sz) (aj (gi i ((R.drop f).take i.size) 0) fun x=>sel (bV x).isEmpty (some (s,x,none,[obR Q' Q,obN j' j])) none) none
   |_=>none)
  |_=>none)
 |_=>none
theorem Y2 {Q:List (List AV)} {j:Nat} {R:List AV} {op:Op} {r:Res} (hj:Q[j]? =some R) (h:Q5 E s Q j R op=some r):eX E B op s r:=by
 unfold Q5 at h;split at h
 ·obtain ⟨i,h1,h⟩:=af h;split at h
  ·rename_i K sz j' f ha;split at h
   ·rename_i z e sz' Q' hb;obtain ⟨h2,h⟩:=ar h;obtain ⟨x,h3,h⟩:=af h;obtain ⟨h4,h⟩:=ar h;cases h;intro ho;obtain ⟨o1,o2,_⟩:=ho;have e1:Q'=Q:=eF o1;have e2:=ee o2;rw[Bool.and_eq_true] at h2;have e3:sz=sz':=(beq_iff _ _).1 h2.1;subst e1;subst e2;subst e3;exact QI h1 ha hb hj h2.2 h3 h4
   ·rename_i e sz' Q' i0 x0 hb;obtain ⟨h2,h⟩:=ar h;obtain ⟨x,h3,h⟩:=af h;obtain ⟨h4,h⟩:=ar h;cases h;intro ho;obtain ⟨o1,o2,_⟩:=ho;have e1:Q'=Q:=eF o1;have e2:=ee o2;rw[Bool.and_eq_true] at h2;have e3:sz=sz':=(beq_iff _ _).1 h2.1;subst e1;subst e2;subst e3;exact NZ h1 ha hb hj h2.2 h3 h4
   ·cases h
  ·cases h
 ·cases h
def Q4 (E:Env) (s:LS) (Q:List (List AV)) (j:Nat) (f:Nat) (xs:List AV) (Q':List (List AV)) (op:Op):Option Res:=
 match op with
 | .store t a c=>aG (E.ty.get t) (iK (aL s.ts c)) fun i xs'=>(match aL s.ts a with
  | .el K sz j' f'=>(match lk K s.bs with
   |some (.rows z e sz' Q0)=>sel (Nat.beq sz sz'&&(Nat.beq f' f&&((cQ xs').isEmpty&&(Nat.beq xs'.length i.size&&Nat.ble (Nat.add f xs'.length) sz)))) (some (s.set K (.rows z e sz Q'),.tup [],some (K,false),[obR Q0 Q,obN j' j,(.agg xs',.agg xs)])) none
   |_=>none)
  |_=>none)
 |_=>none
theorem Y1 {Q:List (List AV)} {j:Nat} {R:List AV} {f:Nat} {xs:List AV} {Q':List (List AV)} {op:Op} {r:Res} (hj:Q[j]? =some R) (hQ':Q.set j (cq R f xs)=Q') (h:Q4 E s Q j f xs Q' op=some r):eX E B op s r:=by
 subst hQ';unfold Q4 at h;split at h
 ·obtain ⟨i,xs',h1,hx,h⟩:=az h;split at h
  ·rename_i K sz j' f' ha;split at h
   ·rename_i z e sz' Q0 hb;obtain ⟨h2,h⟩:=ar h;cases h;intro ho;obtain ⟨o1,o2,o3,_⟩:=ho;have e1:Q0=Q:=eF o1;have e2:=ee o2;have e4:xs'=xs:=by have o3:AV.agg xs'= .agg xs:=o3;simpa using o3
    simp only[Bool.and_eq_true] at h2;obtain ⟨k1,k2,k3,k4⟩:=h2;have e3:sz=sz':=(beq_iff _ _).1 k1;have e5:f'=f:=(beq_iff _ _).1 k2;subst e1;subst e2;subst e3;subst e4;subst e5;exact NU h1 ha rfl hx k3 hb hj (by rw[Bool.and_eq_true];exact k4)
   ·cases h
  ·cases h
 ·cases h
def Rb (E:Env) (s:LS) (Q:List (List AV)) (j f:Nat) (Q':List (List AV)) (op:Op):Option Res:=
 match op with
 | .store t a c=>aj (E.ty.get t) fun i=>(match aL s.ts a,iK (aL s.ts c) with
  | .el K sz j' f',some [x]=>(match lk K s.bs with
   |some (.rows z e sz' Q0)=>sel (Nat.beq sz sz'&&(Nat.beq f' f&&(Nat.beq 1 i.size&&Nat.ble (Nat.add f 1) sz))) (some (s.set K (.hole e sz Q' (Nat.add (Nat.mul j sz) f) x),.tup [],some (K,false),[obR Q0 Q,obN j' j])) none
   |_=>none)
  |_,_=>none)
 |_=>none
theorem Za {Q:List (List AV)} {j:Nat} {R:List AV} {f:Nat} {Q':List (List AV)} {op:Op} {r:Res} (hj:Q[j]? =some R) (hQ':Q.set j (cq R f [.undef])=Q') (h:Rb E s Q j f Q' op=some r):eX E B op s r:=by
 subst hQ';unfold Rb at h;split at h
 ·obtain ⟨i,h1,h⟩:=af h;split at h
  ·rename_i K sz j' f' x ha hx;split at h
   ·rename_i z e sz' Q0 hb;obtain ⟨h2,h⟩:=ar h;cases h;intro ho;obtain ⟨o1,o2,_⟩:=ho;have e1:Q0=Q:=eF o1;have e2:=ee o2;simp only[Bool.and_eq_true] at h2;obtain ⟨k1,k2,k3,k4⟩:=h2;have e3:sz=sz':=(beq_iff _ _).1 k1;have e5:f'=f:=(beq_iff _ _).1 k2;subst e1;subst e2;subst e3;subst e5;exact Ku h1 ha rfl hx hb hj (by rw[Bool.and_eq_true];exact ⟨k3,k4⟩)
   ·cases h
  ·cases h
 ·cases h
def Ra (E:Env) (s:LS) (Q:List (List AV)) (j f:Nat) (op:Op):Option Res:=
 match op with
 | .store t a c=>aj (E.ty.get t) fun i=>(match aL s.ts a,iK (aL s.ts c) with
  | .el K sz j' f',some [x]=>(match lk K s.bs with
   |some (.hole e sz' Q0 i0 x0)=>sel (Nat.beq sz sz'&&(Nat.beq f' f&&Nat.beq 1 i.size)) (some (s.set K (.hole e sz Q (Nat.add (Nat.mul j sz) f) x),.tup [],some (K,false),[obR Q0 Q,obN j' j,obN i0 (Nat.add (Nat.mul j sz) f),obN sz 1,obN f 0])) none
   |_=>none)
  |_,_=>none)
 |_=>none
theorem Y9 {Q:List (List AV)} {j f:Nat} {op:Op} {r:Res} (hu:Q.flatten[j]? =some .undef) (h:Ra E s Q j f op=some r):eX E B op s r:=by
 unfold Ra at h;split at h
 ·obtain ⟨i,h1,h⟩:=af h;split at h
  ·rename_i K sz j' f' x ha hx;split at h
   ·rename_i e sz' Q0 i0 x0 hb;obtain ⟨h2,h⟩:=ar h;cases h;intro ho;obtain ⟨o1,o2,o3,o4,o5,_⟩:=ho;have e1:Q0=Q:=eF o1;have e2:=ee o2;have e0:=ee o3;have e6:=ee o4;have e7:=ee o5;simp only[Bool.and_eq_true] at h2;obtain ⟨k1,k2,k3⟩:=h2;have e3:sz=sz':=(beq_iff _ _).1 k1;have e5:f'=f:=(beq_iff _ _).1 k2;subst e1;subst e2;subst e3;subst e5;subst e0;subst e6;subst e7;exact FJ h1 ha rfl hx hb (by simpa using hu) k3
   ·cases h
  ·cases h
 ·cases h
def Rg (E:Env) (s:LS) (b:ByteArray) (n:Int) (c:UInt8) (op:Op):Option Res:=
 match op with
 | .index t a ix=>aj (E.ty.get t) fun i=>(match aL s.ts a,aL s.ts ix with
  | .str b',.int _ n'=>sel (nX i.desc) (some (s,.int .u8 (c.toNat:Int),none,[obS b' b,obI n' n])) none
  |_,_=>none)
 |_=>none
theorem Ze {b:ByteArray} {n:Int} {c:UInt8} {op:Op} {r:Res} (hc:ke b.data.toList n=some c) (h:Rg E s b n c op=some r):eX E B op s r:=by
 unfold Rg at h;split at h
 ·obtain ⟨i,h1,h⟩:=af h;split at h
  ·rename_i ha hix;obtain ⟨h3,h⟩:=ar h;cases h;intro ho;obtain ⟨o1,o2,_⟩:=ho;have e1:=vS o1;have e2:=jE o2;subst e1;subst e2;exact N1 h1 h3 ha hix hc
  ·cases h
 ·cases h
def Y3 (s:LS) (n:Int) (op:Op):Option Res:=
 match op with
 | .binOp op t a b t2=>(match aL s.ts a,aL s.ts b with
  | .int k m,.int k' n'=>sel (ct k k') (aj (divL op k m n) fun x=>some (s,x,none,[obI n' n])) none
  |_,_=>none)
 |_=>none
theorem aeK {n:Int} {op:Op} {r:Res} (hn:n≠0) (h:Y3 s n op=some r):eX E B op s r:=by
 unfold Y3 at h;split at h
 ·split at h
  ·rename_i ha hb;obtain ⟨h3,h⟩:=ar h;obtain ⟨x,h4,h⟩:=af h;cases h;intro ho;have e1:=jE ho.1;subst e1;exact afY ha hb h3 hn h4
  ·cases h
 ·cases h
def Rh (s:LS) (x y:ByteArray) (op:Op):Option Res:=
 match op with
 | .binOp .add t a b t2=>(match aL s.ts a,aL s.ts b with
  | .str x',.str y'=>some (s,.str (x++y),none,[obS x' x,obS y' y])
  |_,_=>none)
 |_=>none
theorem Zf {x y:ByteArray} {op:Op} {r:Res} (hn:x.size+y.size<=1000000) (h:Rh s x y op=some r):eX E B op s r:=by
 unfold Rh at h;split at h
 ·split at h
  ·rename_i ha hb;cases h;intro ho;obtain ⟨o1,o2,_⟩:=ho;have e1:=vS o1;have e2:=vS o2;subst e1;subst e2;exact afZ ha hb hn
  ·cases h
 ·cases h
def Y5 (E:Env) (pks:List Nat) (s:LS) (n1 n2:Int) (l:Nat) (x:List AV) (Q':List (List AV)) (op:Op) (d:Option Nat):Option Res:=
 match op,d with
 | .makeSlice t a c,some K=>aj (iI E t) fun p=>(match aL s.ts a,aL s.ts c with
  | .int _ n1',.int _ n2'=>sel (dP p.2&&((cQ (dY p.2.zero)).isEmpty&&iF pks s K)) (some (s.set K (.rows false p.1 p.2.size Q'),.ms K p.2.size 0 l,some (K,true),[obI n1' n1,obI n2' n2,(.agg (dY p.2.zero),.agg x)])) none
  |_,_=>none)
 |_,_=>none
def Re (E:Env) (s:LS) (rows:List (List AV)) (lo hi:Int) (R:List (List AV)) (op:Op):Option Res:=
 match op with
 | .slice t a o1 o2 none=>aG (iI E t) (kX (aL s.ts a)) fun p q=>aG (mI s.ts o1) (mI s.ts o2) fun b1 b2=>sel (Nat.beq q.1 p.1&&Nat.beq q.2.1 p.2.size) (some (s,Ai (aL s.ts a) o1 p.1 p.2.size R,none,[obR q.2.2 rows,obI (b1.getD 0) lo,obI (b2.getD (q.2.2.length:Nat)) hi])) none
 |_=>none
theorem Zc {rows R:List (List AV)} {lo hi:Int} {l u:Nat} {op:Op} {r:Res} (h1:lo=(l:Int)) (h2:hi=(u:Int)) (hlu:l<=u) (hum:u<=rows.length) (hR:(rows.drop l).take (u-l)=R) (h:Re E s rows lo hi R op=some r):eX E B op s r:=by
 unfold Re at h;split at h
 ·obtain ⟨p,⟨e,sz,rows'⟩,h3,h4,h⟩:=az h;obtain ⟨b1,b2,h5,h6,h⟩:=az h;obtain ⟨h7,h⟩:=ar h;cases h;intro ho;obtain ⟨o1,o2,o3,_⟩:=ho;have e1:rows'=rows:=eF o1;have e2:=jE o2;have e3:=jE o3;rw[Bool.and_eq_true] at h7;have e4:e=p.1:=(beq_iff _ _).1 h7.1;have e5:sz=p.2.size:=(beq_iff _ _).1 h7.2;subst e1;subst e4;subst e5;exact ok_slice h3 rfl h4 h5 h6 (e2.trans h1) (e3.trans h2) hlu hum hR
 ·cases h
def KS (E:Env) (s:LS) (rows:List (List AV)) (hi mx:Int) (R:List (List AV)) (op:Op):Option Res:=
 match op with
 | .slice t a none (some o2) (some o3)=>aG (iI E t) (Gt (aL s.ts a)) fun p q=>aG (mI s.ts (some o2)) (mI s.ts (some o3)) fun b2 b3=>aG b2 b3 fun n2 n3=>sel (Nat.beq q.1 p.1&&Nat.beq q.2.1 p.2.size) (some (s,.slf p.1 p.2.size R,none,[obR q.2.2 rows,obI n2 hi,obI n3 mx])) none
 |_=>none
theorem W1 {rows R:List (List AV)} {hi mx:Int} {u:Nat} {op:Op} {r:Res} (h2:hi=(u:Int)) (h3:mx=(u:Int)) (hum:u<=rows.length) (hR:rows.take u=R) (h:KS E s rows hi mx R op=some r):eX E B op s r:=by
 unfold KS at h;split at h
 ·obtain ⟨p,⟨e,sz,rows'⟩,h4,h5,h⟩:=az h;obtain ⟨b2,b3,h6,h7,h⟩:=az h;obtain ⟨n2,n3,h8,h9,h⟩:=az h;obtain ⟨h10,h⟩:=ar h;cases h;intro ho;obtain ⟨o1,o2,o3,_⟩:=ho;have e1:rows'=rows:=eF o1;have e2:=jE o2;have e3:=jE o3;rw[Bool.and_eq_true] at h10;have e4:e=p.1:=(beq_iff _ _).1 h10.1;have e5:sz=p.2.size:=(beq_iff _ _).1 h10.2;subst e1;subst e4;subst e5;subst h8;subst h9;exact Wp h4 rfl h5 h6 h7 (e2.trans h2) (e3.trans h3) hum hR
 ·cases h
def KR (E:Env) (s:LS) (Q:List (List AV)) (lo0 n:Nat) (lo hi:Int) (l u:Nat) (op:Op):Option Res:=
 match op with
 | .slice t a o1 o2 none=>aj (iI E t) fun p=>aG (mI s.ts o1) (mI s.ts o2) fun b1 b2=>(match aL s.ts a with
  | .ms K sz lo' n'=>(match lk K s.bs with
   |some (.rows _ e sz' Q')=>sel (Nat.beq e p.1&&(Nat.beq sz p.2.size&&Nat.beq sz' p.2.size)) (some (s,.ms K p.2.size (Nat.add lo0 l) (Nat.sub u l),none,[obR Q' Q,obN lo' lo0,obN n' n,obI (b1.getD 0) lo,obI (b2.getD (n:Nat)) hi])) none
   |_=>none)
  |_=>none)
 |_=>none
theorem W0 {Q:List (List AV)} {lo0 n:Nat} {lo hi:Int} {l u:Nat} {op:Op} {r:Res} (h1:lo=(l:Int)) (h2:hi=(u:Int)) (hlu:l<=u) (hum:u<=n) (hn:lo0+n<=Q.length) (h:KR E s Q lo0 n lo hi l u op=some r):eX E B op s r:=by
 unfold KR at h;split at h
 ·obtain ⟨p,h3,h⟩:=af h;obtain ⟨b1,b2,h5,h6,h⟩:=az h;split at h
  ·rename_i K sz lo' n' ha;split at h
   ·rename_i z e sz' Q' hb;obtain ⟨h7,h⟩:=ar h;cases h;intro ho;obtain ⟨o1,o2,o3,o4,o5,_⟩:=ho;have e1:=eF o1;have e2:=ee o2;have e3:=ee o3;have e4:=jE o4;have e5:=jE o5;rw[Bool.and_eq_true,Bool.and_eq_true] at h7;have e6:e=p.1:=(beq_iff _ _).1 h7.1;have e7:sz=p.2.size:=(beq_iff _ _).1 h7.2.1;have e8:sz'=p.2.size:=(beq_iff _ _).1 h7.2.2;subst e1;subst e2;subst e3;subst e6;subst e7;subst e8;exact NW h3 ha hb h5 h6 (e4.trans h1) (e5.trans h2) hlu hum hn
   ·cases h
  ·cases h
 ·cases h
def P9 (b:Builtin) (op:Op):Option ((Operand×Operand)×TypeId×TypeId):=
 match op with
 | .call c=>(match c.callee with
  | .builtin b'=>sel (decide (b'=b)) (match c.args.toList,c.argTypes.toList with
   | [a,y],[t1,t2]=>some ((a,y),t1,t2)
   |_,_=>none) none
  |_=>none)
 |_=>none
theorem EN {b:Builtin} {op:Op} {q:(Operand×Operand)×TypeId×TypeId} (h:P9 b op=some q):∃c,op= .call c/\c.callee= .builtin b/\c.args.toList= [q.1.1,q.1.2]/\c.argTypes.toList= [q.2.1,q.2.2]:=by
 unfold P9 at h;split at h
 ·rename_i c;split at h
  ·rename_i b' hc;obtain ⟨h1,h2⟩:=ar h;clear h;have e:b'=b:=by simpa using h1
   split at h2
   ·rename_i ha ht;cases h2;exact ⟨c,rfl,by rw[hc,e],ha,ht⟩
   ·cases h2
  ·cases h
 ·cases h
def Gc (E:Env) (pks:List Nat) (s:LS) (w:Bool) (Q P R Q':List (List AV)) (n n':Nat) (sr:Sr R) (op:Op) (d:Option Nat):Option Res:=
 aj (P9 .append op) fun q=>aG (iI E q.2.1) (E.ty.get q.2.2) fun p i2=>aj (Qm s p.2.size (aL s.ts q.1.2) sr) fun obs=>(match aL s.ts q.1.1 with
  | .ms K sz lo n0=>(match lk K s.bs with
   |some (.rows z e sz' Q0)=>sel (dP p.2&&(oo i2.desc&&(Nat.beq lo 0&&(Nat.beq sz p.2.size&&(Nat.beq sz' p.2.size&&(Nat.beq e p.1 && !eh K pks)))))) (some ((s.cZ K).set K (.rows (w&&z) e sz Q'),.ms K sz 0 n',some (K,false),obR Q0 Q::obN n0 n::obs)) none
   |_=>none)
  | .aU=>aj d fun K=>(match lk K s.bs with
   |some (.rows true e sz' [])=>sel (dP p.2&&(oo i2.desc&&(Nat.beq sz' p.2.size&&(Nat.beq e p.1 && !eh K pks)))) (some ((s.cZ K).set K (.rows true e sz' Q'),.ms K sz' 0 n',some (K,false),obR [] Q::obN 0 n::obs)) none
   |_=>none)
  |_=>none)
theorem KT {pks:List Nat} {w:Bool} {Q P R Q':List (List AV)} {n n':Nat} {sr:Sr R} {op:Op} {d:Option Nat} {r:Res} (hB:BOK pks B) (hw:w=true->n=Q.length) (hP:Q.take n=P) (hn:n<=Q.length) (hn6:n<=1000000) (hR:R.length<=1000000) (hQ':P++R=Q') (hl:Q'.length=n') (h:Gc E pks s w Q P R Q' n n' sr op d=some r):eX E B op s r:=by
 subst hl;subst hQ';unfold Gc at h;obtain ⟨⟨⟨a,y⟩,t1,t2⟩,h1,h0⟩:=af h;clear h;obtain ⟨c,rfl,hc1,hc2,hc3⟩:=EN h1;have h:=h0;clear h0;obtain ⟨p,i2,h2,h3,h⟩:=az h;obtain ⟨obs,h4,h⟩:=af h;split at h
 ·rename_i K sz lo n0 ha;split at h
  ·rename_i z e sz' Q0 hb;obtain ⟨h5,h⟩:=ar h;cases h;intro ho;obtain ⟨o1,o2,o3⟩:=ho;have e1:=eF o1;have e2:=ee o2;simp only[Bool.and_eq_true] at h5;obtain ⟨k1,k2,k3,k4,k5,k6,k7⟩:=h5;have e3:lo=0:=(beq_iff _ _).1 k3;have e4:sz=p.2.size:=(beq_iff _ _).1 k4;have e5:sz'=p.2.size:=(beq_iff _ _).1 k5;have e6:e=p.1:=(beq_iff _ _).1 k6;subst e1;subst e2;subst e3;subst e4;subst e5;subst e6;refine Wu hc1 hc2 hc3 h2 k1 h3 k2 ha rfl (Dt h4 o3) hP hn hn6 hR (fun hz=> ?_) hb (hB K (by simpa using k7))
   rw[Bool.and_eq_true] at hz;exact ⟨hz.2,hw hz.1⟩
  ·cases h
 ·rename_i ha;obtain ⟨K,hd,h⟩:=af h;split at h
  ·rename_i e sz' hb;obtain ⟨h5,h⟩:=ar h;cases h;intro ho;obtain ⟨o1,o2,o3⟩:=ho;have e1:=eF o1;have e2:=ee o2;simp only[Bool.and_eq_true] at h5;obtain ⟨k1,k2,k5,k6,k7⟩:=h5;have e5:sz'=p.2.size:=(beq_iff _ _).1 k5;have e6:e=p.1:=(beq_iff _ _).1 k6;subst e1;subst e2;subst e5;subst e6;have hP':P= []:=by rw[<-hP];rfl
   subst hP';exact QL hc1 hc2 hc3 h2 k1 h3 k2 ha rfl (Dt h4 o3) hR hb (hB K (by simpa using k7))
  ·cases h
 ·cases h
def Rf (E:Env) (s:LS) (Q R Q':List (List AV)) (lo n m:Nat) (sr:Sr R) (op:Op):Option Res:=
 aj (P9 .copy op) fun q=>aj (iI E q.2.1) fun p=>(match aL s.ts q.1.1 with
  | .ms K sz lo' n'=>(match lk K s.bs with
   |some (.rows z e sz' Q2)=>aj (Qm s p.2.size (aL s.ts q.1.2) sr) fun obs=>sel (dP p.2&&(Nat.beq sz p.2.size&&Nat.beq sz' p.2.size)) (some (s.set K (.rows z e sz Q'),.int .i64 (m:Int),some (K,false),obR Q2 Q::obN lo' lo::obN n' n::obs)) none
   |_=>none)
  |_=>none)
theorem Zd {Q R Q':List (List AV)} {lo n m:Nat} {sr:Sr R} {op:Op} {r:Res} (hn:lo+n<=Q.length) (hm:m=min R.length n) (hQ':Q'=Q.take lo++R.take m++Q.drop (lo+m)) (hne:Q≠ []) (h:Rf E s Q R Q' lo n m sr op=some r):eX E B op s r:=by
 unfold Rf at h;obtain ⟨⟨⟨a,y⟩,t1,t2⟩,h1,h0⟩:=af h;clear h;obtain ⟨c,rfl,hc1,hc2,hc3⟩:=EN h1;have h:=h0;clear h0;obtain ⟨p,h2,h⟩:=af h;split at h
 ·rename_i K sz lo' n' ha;split at h
  ·rename_i z e sz' Q2 hb;obtain ⟨obs,h4,h⟩:=af h;obtain ⟨h5,h⟩:=ar h;cases h;intro ho;obtain ⟨o1,o2,o3,o4⟩:=ho;have e1:=eF o1;have e2:=ee o2;have e3:=ee o3;simp only[Bool.and_eq_true] at h5;obtain ⟨k1,k2,k3⟩:=h5;have e4:sz=p.2.size:=(beq_iff _ _).1 k2;have e5:sz'=p.2.size:=(beq_iff _ _).1 k3;subst e1;subst e2;subst e3;subst e4;subst e5;exact aeB hc1 hc2 hc3 h2 k1 ha rfl (Dt h4 o4) hn hm hQ' hb hne
  ·cases h
 ·cases h
def Q6 (s:LS) (b:ByteArray) (pos:Nat) (op:Op):Option Res:=
 match op with
 | .next it true=>(match aL s.ts it with
  | .it K=>(match lk K s.bs with
   |some (.iter b' pos')=>some (s.set K (.iter b (Nat.add pos (Utf8.decode b pos).2)),.tup [.bool true,.int .i64 (pos:Int),.int .i32 (Utf8.decode b pos).1],some (K,false),[obS b' b,obN pos' pos])
   |_=>none)
  |_=>none)
 |_=>none
theorem Y4 {b:ByteArray} {pos:Nat} {op:Op} {r:Res} (hlt:pos<b.size) (h:Q6 s b pos op=some r):eX E B op s r:=by
 unfold Q6 at h;split at h
 ·split at h
  ·rename_i ha;split at h
   ·rename_i hb;cases h;intro ho;obtain ⟨o1,o2,_⟩:=ho;have e1:=vS o1;have e2:=ee o2;subst e1;subst e2;exact aex ha hb hlt
   ·cases h
  ·cases h
 ·cases h
def Rd (s:LS) (b:ByteArray) (pos:Nat) (op:Op):Option Res:=
 match op with
 | .next it true=>(match aL s.ts it with
  | .it K=>(match lk K s.bs with
   |some (.iter b' pos')=>some (s,.tup [.bool false],none,[obS b' b,obN pos' pos])
   |_=>none)
  |_=>none)
 |_=>none
theorem Zb {b:ByteArray} {pos:Nat} {op:Op} {r:Res} (hlt:¬pos<b.size) (h:Rd s b pos op=some r):eX E B op s r:=by
 unfold Rd at h;split at h
 ·split at h
  ·rename_i ha;split at h
   ·rename_i hb;cases h;intro ho;obtain ⟨o1,o2,_⟩:=ho;have e1:=vS o1;have e2:=ee o2;subst e1;subst e2;exact QG ha hb hlt
   ·cases h
  ·cases h
 ·cases h
def Q7 (E:Env) (s:LS) (es:List (AV×AV)) (k x z:AV) (ok:Bool) (op:Op):Option Res:=
 match op with
 | .lookup t a c ok'=>aj (KF E t) fun p=>(match aL s.ts a with
  | .mp K=>(match lk K s.bs with
   |some (.map es')=>sel (KQ k p.1.desc&&(ok==ok'&&(bV x).isEmpty)) (aj (gi p.2 (dY p.2.zero) 0) fun z'=>some (s,x,none,obM es' es++ [(aL s.ts c,k),(z',z)])) none
   |_=>none)
  |_=>none)
 |_=>none
theorem Y6 {es:List (AV×AV)} {k x z:AV} {ok:Bool} {op:Op} {r:Res} (hf:∃f,hJ k es=some f/\wA ok (some z) f=some x) (h:Q7 E s es k x z ok op=some r):eX E B op s r:=by
 obtain ⟨f,hf,hx⟩:=hf;unfold Q7 at h;split at h
 ·obtain ⟨p,h1,h⟩:=af h;split at h
  ·rename_i ha;split at h
   ·rename_i hb;obtain ⟨h2,h⟩:=ar h;obtain ⟨z',h3,h⟩:=af h;cases h;intro ho;obtain ⟨e1,o2,o3,_⟩:=Wv ho;have o2:aL s.ts _=k:=o2;have o3:z'=z:=o3;simp only[Bool.and_eq_true,beq_iff_eq] at h2;obtain ⟨k1,k2,k3⟩:=h2;subst e1;subst o3;subst k2;exact Wr h1 ha o2 k1 hb hf (by rw[h3];exact hx) k3
   ·cases h
  ·cases h
 ·cases h
def Q3 (E:Env) (s:LS) (es es':List (AV×AV)) (k x:AV) (op:Op):Option Res:=
 match op with
 | .mapUpdate t a c d=>aj (KF E t) fun p=>(match aL s.ts a with
  | .mp K=>(match lk K s.bs with
   |some (.map es0)=>sel (KQ k p.1.desc) (aj (ndf (aL s.ts d)) fun x'=>sel (bV x).isEmpty (some (s.set K (.map es'),.tup [],some (K,false),obM es0 es++ [(aL s.ts c,k),(x',x)])) none) none
   |_=>none)
  |_=>none)
 |_=>none
theorem Y0 {es es':List (AV×AV)} {k x:AV} {op:Op} {r:Res} (hf:∃f,hJ k es=some f/\CX es k x f=es') (h:Q3 E s es es' k x op=some r):eX E B op s r:=by
 obtain ⟨f,hf,hx⟩:=hf;subst hx;unfold Q3 at h;split at h
 ·obtain ⟨p,h1,h⟩:=af h;split at h
  ·rename_i ha;split at h
   ·rename_i hb;obtain ⟨h2,h⟩:=ar h;obtain ⟨x',h3,h⟩:=af h;obtain ⟨h5,h6⟩:=mV h3;obtain ⟨h4,h⟩:=ar h;cases h;intro ho;obtain ⟨e1,o2,o3,_⟩:=Wv ho;have o2:aL s.ts _=k:=o2;have o3:x'=x:=o3;subst e1;subst o3;exact Wo (fun _ _ _=>rfl) h1 ha o2 h2 h5 (h5 ▸ h6) h4 hb hf
   ·cases h
  ·cases h
 ·cases h
end
section
variable {F F':Hf} {g g':Gb} {B:Bs} {φ:Nat->List Nat} {s s' s1:LS} {tm:Tf} {h:Hs} {hp:Hf} {E:Env} {nt:Nat} {all l:List Oper}
inductive P1 where
 |same|sl (e s:Nat)|sn (e s:Nat)|sx (e s:Nat)|un|nl
inductive PM where
 |one (m:P1)|agg (ms:List P1)
def P1.app (m:P1) (x:AV):AV:=
 match m with
 | .same=>x
 | .un=>.undef
 | .sl e s=>(match x with
  | .aU=>.slice e s []
  | .sln e' s' rows=>.slice e' s' rows
  | .slf e' s' rows=>.slice e' s' rows
  |x=>x)
 | .sn e s=>(match x with
  | .aU=>.sln e s []
  |x=>x)
 | .sx e s=>(match x with
  | .aU=>.slx e s []
  | .slice e' s' rows=>.slx e' s' rows
  | .sln e' s' rows=>.slx e' s' rows
  | .slf e' s' rows=>.slx e' s' rows
  |x=>x)
 | .nl=>(match x with
  | .sln _ _ []=>.aU
  |x=>x)
def apps:List P1->List AV->List AV
 |m::ms,x::xs=>m.app x::apps ms xs
 |_,xs=>xs
def PM.app (m:PM) (x:AV):AV:=
 match m with
 | .one m=>m.app x
 | .agg ms=>(match x with| .agg xs=>.agg (apps ms xs)|x=>x)
theorem P1.va (m:P1) {x:AV} {v:SV} (h:VA F g v x):VA F g v (m.app x):=by
 unfold P1.app;split
 ·exact h
 ·exact .undef v
 ·split
  ·cases h;exact .iv _ _
  ·cases h with
   |mR=>exact .iv _ _
   |sln hF hc hn hz hu hl h=>exact .slice hF hc hn hu hl h
  ·cases h with
   |tM=>exact .iv _ _
   |slf hF hn hu hl h=>exact .slice hF (Nat.le_refl _) hn hu hl h
  ·exact h
 ·split
  ·cases h;exact .mR _ _
  ·exact h
 ·split
  ·cases h;exact .mf _ _
  ·cases h with
   |iv=>exact .mf _ _
   |slice hF hc hn hu hl h=>exact .slx hF hc hn hu hl h
  ·cases h with
   |mR=>exact .mf _ _
   |sln hF hc hn hz hu hl h=>exact .slx hF hc hn hu hl h
  ·cases h with
   |tM=>exact .mf _ _
   |slf hF hn hu hl h=>exact .slx hF (Nat.le_refl _) hn hu hl h
  ·exact h
 ·split
  ·cases h with
   |mR=>exact .aU
   |sln hF hc hn hz=>exact absurd rfl hz
  ·exact h
theorem xX:∀{ms:List P1} {xs:List AV} {vs:List SV},VAs F g vs xs->VAs F g vs (apps ms xs)
 | [],xs,_,h=>by cases xs<;>exact h
 |m::ms,[],_,h=>h
 |m::ms,x::xs,_,.cons h t=>.cons (m.va h) (xX t)
theorem Mg:∀(ms:List P1) (xs:List AV),(apps ms xs).length=xs.length
 | [],xs=>by cases xs<;>rfl
 |m::ms,[]=>rfl
 |m::ms,x::xs=>by show (apps ms xs).length+1=_;rw[Mg ms xs];rfl
theorem VAs.cutAt:∀{r R:List AV} {vs:List SV},VAs F g vs (r++R)->∃v1 v2,vs=v1++v2/\VAs F g v1 r/\VAs F g v2 R
 | [],R,vs,h=>⟨[],vs,rfl,.nil,h⟩
 |x::r,R,_,.cons h t=>by
  obtain ⟨v1,v2,e,a,b⟩:=VAs.cutAt (r:=r) t;exact ⟨_::v1,v2,by rw[e];rfl,.cons h a,b⟩
theorem Fl {ms:List P1}:∀{Q:List (List AV)} {vs:List SV},VAs F g vs Q.flatten->VAs F g vs (Q.map (apps ms)).flatten
 | [],_,h=>h
 |r::Q,vs,h=>by
  obtain ⟨v1,v2,e,a,b⟩:=VAs.cutAt (r:=r) (R:=Q.flatten) h;subst e;exact (xX a).append (Fl b)
theorem Ol {z:Bool} {e:TypeId} {sz:Nat} {Q:List (List AV)} (ms:List P1):WB (.rows z e sz Q) (.rows z e sz (Q.map (apps ms))):=fun F g h K fp q=>by
 cases q with
 |cH hb=>exact .cH hb
 |rows hb hh hz hu hc q=>
  refine .rows hb hh (fun e=> ?_) (fun r hr=> ?_) (by rw[List.length_map];exact hc) (by rw[List.length_map];exact Fl q)
  ·intro hq;exact hz e (List.map_eq_nil_iff.1 hq)
  ·obtain ⟨r0,h0,e0⟩:=List.mem_map.1 hr;rw[<-e0,Mg];exact hu r0 h0
theorem aP.box {op:Op} {x:AV} {K:Nat} {b b':Bx} {l:Bool} (hy:aP E B op s (s.set K b) x (some (K,l))) (hw:WB b b'):aP E B op s (s.set K b') x (some (K,l)):=.mk fun {F g φ tm hh new} r h1 h2=>by
 have less:kQ (s.set K b) (s.set K b'):=⟨fun t y hy=>.inr ⟨y,hy,WV.refl y⟩,fun k c hc=>by
  rw[show (s.set K b').bs=(K,b')::s.bs from rfl,aW] at hc;rw[show (s.set K b).bs=(K,b)::s.bs from rfl,aW];split at hc
  ·rename_i e;cases hc;rw[if_pos e];exact ⟨b,rfl,hw⟩
  ·rename_i e;rw[if_neg e];exact ⟨c,hc,WB.refl c⟩⟩
 obtain ⟨v,us,a1,a2,a3,a4,a5,a6⟩:=hy.go r h1 h2;refine ⟨v,us,a1,a2,fun h' hu=>(a3 h' hu).less less,a4,fun k c hc=> ?_,fun k hk=>pK (hk.elim .inl fun ⟨l,hl⟩=>.inr (by cases hl;rfl))⟩
 obtain ⟨c0,hc0,_⟩:=less.2 k c hc;exact a5 k c0 hc0
theorem aeL {pks:List Nat} {n1 n2:Int} {l m:Nat} {x:List AV} {Q':List (List AV)} {op:Op} {d:Option Nat} {r:Res} (hB:BOK pks B) (h1:n1=(l:Int)) (h2:n2=(m:Int)) (hl:l<=m) (hm:m<=1000000) (ms:List P1) (hQ':(List.replicate l x).map (apps ms)=Q') (h:Y5 E pks s n1 n2 l x Q' op d=some r):eX E B op s r:=by
 subst hQ';unfold Y5 at h;split at h
 ·obtain ⟨p,h3,h⟩:=af h;split at h
  ·rename_i ha hc;obtain ⟨h4,h⟩:=ar h;cases h;intro ho;obtain ⟨o1,o2,o3,_⟩:=ho;have e1:=jE o1;have e2:=jE o2;have e3:dY p.2.zero=x:=by have o3:AV.agg (dY p.2.zero)= .agg x:=o3;simpa using o3
   subst e1;subst e2;subst e3;rw[Bool.and_eq_true,Bool.and_eq_true] at h4;obtain ⟨f1,f2⟩:=kh hB h4.2.2;exact (Kv h3 h4.1 ha hc h1 h2 hl hm f1 f2 h4.2.1).box (Ol ms)
  ·cases h
 ·cases h
theorem PM.va (m:PM) {x:AV} {v:SV} (h:VA F g v x):VA F g v (m.app x):=by
 unfold PM.app;split
 ·exact P1.va _ h
 ·split
  ·cases h with|agg h=>exact .agg (xX h)
  ·exact h
theorem PM.wv (m:PM) (x:AV):WV x (m.app x):=.inr fun _ _ _ h=>m.va h
def GC:List PM->List AV->List AV
 |m::ms,x::xs=>m.app x::GC ms xs
 |_,xs=>xs
theorem Mk:∀{ms:List PM} {xs:List AV} {vs:List SV},VAs F g vs xs->VAs F g vs (GC ms xs)
 | [],xs,_,h=>by cases xs<;>exact h
 |m::ms,[],_,h=>h
 |m::ms,x::xs,_,.cons h t=>.cons (m.va h) (Mk t)
inductive PB where
 |same|flat (ms:List P1)|any|hol (m:P1)|rws (ms:List P1)
def PB.app (m:PB) (b:Bx):Bx:=
 match m with
 | .same=>b
 | .flat ms=>(match b with| .flat e cs=>.flat e (apps ms cs)|b=>b)
 | .any=>(match b with| .rows _ e s Q=>.rows false e s Q|b=>b)
 | .hol m=>(match b with| .hole e s Q i x=>.hole e s Q i (m.app x)| .own e e' s Q o=>.own e e' s Q (DQ m.app o)|b=>b)
 | .rws ms=>(match b with| .rows z e s Q=>.rows z e s (Q.map (apps ms))|b=>b)
theorem PB.wb (m:PB) (b:Bx):WB b (m.app b):=fun F g h K fp q=>by
 unfold PB.app;split
 ·exact q
 ·split
  ·cases q with|flat hh q=>exact .flat hh (xX q)
  ·exact q
 ·split
  ·cases q with
   |cH hb=>exact .cH hb
   |rows hb hh hz hu hc q=>exact .rows hb hh (fun e=>by cases e) hu hc q
  ·exact q
 ·split
  ·cases q with|hole hb hh hu hc q hi hv hx=>exact .hole hb hh hu hc q hi hv (P1.va _ hx)
  ·cases q with
   |jq hb=>exact .jq hb
   |own hb hh hc q nd ho=>
    refine .own hb hh hc q nd fun i x e=> ?_
    obtain ⟨y,e1,rfl⟩:=nU e;subst e1;obtain ⟨a,v,b,c⟩:=ho i y rfl;exact ⟨a,v,b,P1.va _ c⟩
  ·exact q
 ·split
  ·exact Ol _ _ _ _ _ _ q
  ·exact q
def Yy (o:Option (Nat×AV)):List AV:=match o with|none=> []|some p=> [.loc p.1 0,p.2]
theorem aes:∀{a b:Option (Nat×AV)},Yy a=Yy b->a=b
 |none,none,_=>rfl
 |none,some _,h=>by cases h
 |some _,none,h=>by cases h
 |some p,some q,h=>by
  injection h with h1 h
  injection h with h2 _
  injection h1 with h1 _
  rw[Prod.ext h1 h2]
def bxA (b:Bx):AV:=
 match b with
 | .flat e cs=>.fn e [] cs
 | .rows true e s Q=>.sln e s Q
 | .rows false e s Q=>.slice e s Q
 | .map es=>.tup [.agg (es.map (·.1)),.agg (es.map (·.2))]
 | .iter b pos=>.ifc pos (.str b)
 | .hole e s Q i x=>.tup [.sln e s Q,.loc i 0,x]
 | .own e e' s Q o=>.tup (.loc e e':: .loc s 0:: .tup (Q.map LR)::Yy o)
theorem B6 {a b:Bx} (h:bxA a=bxA b):a=b:=by
 unfold bxA at h;split at h<;>split at h<;>first|(cases h;done)|skip
 ·injection h with h1 h2 h3;subst h1;subst h3;rfl
 ·injection h with h1 h2 h3;subst h1;subst h2;subst h3;rfl
 ·injection h with h1 h2 h3;subst h1;subst h2;subst h3;rfl
 ·injection h with h1
  injection h1 with h1 h2
  injection h2 with h2 h3
  injection h1 with h1
  injection h2 with h2
  rw[zL h1 h2]
 ·injection h with h1 h2;injection h2 with h2;subst h1;subst h2;rfl
 ·injection h with h1
  injection h1 with h1 h2
  injection h1 with h3 h4 h5
  injection h2 with h6 h7
  injection h6 with h6 _
  injection h7 with h7 _
  subst h3;subst h4;subst h5;subst h6;subst h7;rfl
 ·injection h with h
  injection h with h1 h
  injection h with h2 h
  injection h with h3 h
  injection h1 with h1 h4
  injection h2 with h2 _
  injection h3 with h3
  have h3:=Em h3;subst h1;subst h2;subst h3;subst h4;rw[aes h]
inductive It (E:Env):Type
 |eqv {x y:AV} (h:x=y)
 |idx {rows:List (List AV)} {n:Int} {R:List AV} (h:ke rows n=some R)
 |idb {n k:Nat} {m:Int} (h:m=(k:Int)) (hk:k<n)
 |row {Q:List (List AV)} {j:Nat} {R:List AV} (h:Q[j]? =some R)
 |hol {Q:List (List AV)} {j:Nat} {R:List AV} {f:Nat} {Q':List (List AV)} (h:Q[j]? =some R) (hQ:Q.set j (cq R f [.undef])=Q')
 |opn {Q:List (List AV)} {j:Nat} {x:AV} {Q':List (List AV)} (K:Nat) (h:Q[j]? =some [x]) (hQ:Q.set j [.undef]=Q')
 |hst {Q:List (List AV)} {j f:Nat} (hu:Q.flatten[j]? =some .undef)
 |clo {Q:List (List AV)} {j:Nat} {R:List AV} {f:Nat} {x:AV} {Q':List (List AV)} (K:Nat) (h:Q[j]? =some R) (hQ:Q.set j (cq R f [x])=Q')
 |DE {Q:List (List AV)} {P:List (Option (List (List AV)))} (K e' s:Nat) (h:∃n,Q=List.replicate n [.sln e' s []]/\P=List.replicate n (some []))
 |r7 {Q:List (Option (List (List AV)))} {j:Nat} {R:List (List AV)} {n:Nat} {Q':List (Option (List (List AV)))} (K K2:Nat) (h:Q[j]? =some (some R)) (hn:R.length=n) (hQ:Q.set j none=Q')
 |tX {Q:List (Option (List (List AV)))} {j:Nat} {R:List (List AV)} {n:Nat} {Q':List (Option (List (List AV)))} (K K2:Nat) (hn:R.length=n) (hQ:Q.set j (some R)=Q')
 |DI {Q:List (Option (List (List AV)))} {P:List (List AV)} {n:Nat} (x:Bool) (K e' s:Nat) (h:Q.map (zM x e' s)=P) (hn:Q.length=n)
 |nz {n:Int} (h:n≠0)
 |cat {a b:ByteArray} (h:a.size+b.size<=1000000)
 |mk {n1 n2:Int} {l m:Nat} {x:List AV} {Q':List (List AV)} (h1:n1=(l:Int)) (h2:n2=(m:Int)) (hl:l<=m) (hm:m<=1000000) (ms:List P1) (hQ:(List.replicate l x).map (apps ms)=Q')
 |sto {Q:List (List AV)} {j:Nat} {R:List AV} {f:Nat} {xs:List AV} {Q':List (List AV)} (h:Q[j]? =some R) (hQ:Q.set j (cq R f xs)=Q')
 |nxt {b:ByteArray} {pos:Nat} (h:pos<b.size)
 |fin {b:ByteArray} {pos:Nat} (h:¬pos<b.size)
 |lkp {es:List (AV×AV)} {k x z:AV} (ok:Bool) (h:∃f,hJ k es=some f/\wA ok (some z) f=some x)
 |upd {es es':List (AV×AV)} {k x:AV} (h:∃f,hJ k es=some f/\CX es k x f=es')
 |nrm (m:PM)
 |laid {x y:Bx} (h:x=y)
 |cut {rows R:List (List AV)} {lo hi:Int} {l u:Nat} (h1:lo=(l:Int)) (h2:hi=(u:Int)) (hlu:l<=u) (hum:u<=rows.length) (hR:(rows.drop l).take (u-l)=R)
 |wM {rows R:List (List AV)} {hi mx:Int} {u:Nat} (h2:hi=(u:Int)) (h3:mx=(u:Int)) (hum:u<=rows.length) (hR:rows.take u=R)
 |Ep {Q:List (List AV)} {lo0 n:Nat} {lo hi:Int} {l u:Nat} (h1:lo=(l:Int)) (h2:hi=(u:Int)) (hlu:l<=u) (hum:u<=n) (hn:lo0+n<=Q.length)
 |app {Q R Q':List (List AV)} {n n':Nat} (hn:n=Q.length) (hn6:Q.length<=1000000) (hR:R.length<=1000000) (hQ:Q++R=Q') (hl:Q'.length=n') (sr:Sr R)
 |aad {Q P R Q':List (List AV)} {n n':Nat} (hP:Q.take n=P) (hn:n<=Q.length) (hn6:n<=1000000) (hR:R.length<=1000000) (hQ:P++R=Q') (hl:Q'.length=n') (sr:Sr R)
 |cpy {Q R Q':List (List AV)} {lo n m:Nat} (hn:lo+n<=Q.length) (hm:m=min R.length n) (hQ':Q'=Q.take lo++R.take m++Q.drop (lo+m)) (hne:Q≠ []) (sr:Sr R)
 |chr {b:ByteArray} {n:Int} {c:UInt8} (h:ke b.data.toList n=some c)
 |call {f:Nat} {bs bs':List (Nat×Bx)} {xs:List AV} {y:AV} (h:aZ E f bs xs y bs') (ms:List PM) (ps rs:bt)
 |frz {Q:List (List AV)} {n:Nat} (K:Nat) (h:Q.length=n)
 |ren (K K':Nat)
 |shr {Q P:List (List AV)} {u:Nat} (K:Nat) (h:Q.take u=P)
 |born (ts:List Nat) (cs:bt) (K:Nat) (z:Bool) (e sz:Nat)
 |norm (ts:List (Nat×PM)) (bs:List (Nat×PB))
 |seq {x y:AV} (t:Nat) (h:x=y)
 |beq {x y:Bx} (K:Nat) (h:x=y)
theorem aP.weak {op:Op} {x:AV} {W:WK} (m:PM) (h:aP E B op s s1 x W):aP E B op s s1 (m.app x) W:=.mk fun {F g φ tm hh new} r h1 h2=>by
 obtain ⟨v,us,a,b,c⟩:=h.go r h1 h2;exact ⟨v,us,a,m.va b,c⟩
def Qi (E:Env) (pks:List Nat) (s:LS) (op:Op) (d:Option Nat) (it:It E):Option Res:=
 match it with
 | @It.eqv _ x y _=>aj (nR E pks s op d) fun r=>some (r.1,y,r.2.2.1,(r.2.1,x)::r.2.2.2)
 | @It.idx _ rows n R _=>Q8 E s rows n R op
 | @It.idb _ n k m _ _=>Q9 E s n k m op
 | @It.row _ Q j R _=>Q5 E s Q j R op
 | @It.hol _ Q j _ f Q' _ _=>Rb E s Q j f Q' op
 | @It.hst _ Q j f _=>Ra E s Q j f op
 | @It.nz _ n _=>Y3 s n op
 | @It.cat _ a b _=>Rh s a b op
 | @It.mk _ n1 n2 l _ x Q' _ _ _ _ _ _=>Y5 E pks s n1 n2 l x Q' op d
 | @It.sto _ Q j _ f xs Q' _ _=>Q4 E s Q j f xs Q' op
 | @It.nxt _ b pos _=>Q6 s b pos op
 | @It.fin _ b pos _=>Rd s b pos op
 | @It.lkp _ es k x z ok _=>Q7 E s es k x z ok op
 | @It.upd _ es es' k x _=>Q3 E s es es' k x op
 | @It.laid _ x y _=>aj d fun K=>sel (iF pks s K) (aj (vQ E s K op) fun p=>some (s.set K y,p.2,some (K,true),[(bxA p.1,bxA x)])) none
 | .nrm m=>aj (nR E pks s op d) fun r=>some (r.1,m.app r.2.1,r.2.2.1,r.2.2.2)
 | @It.cut _ rows R lo hi _ _ _ _ _ _ _=>Re E s rows lo hi R op
 | @It.wM _ rows R hi mx _ _ _ _ _=>KS E s rows hi mx R op
 | @It.Ep _ Q lo0 n lo hi l u _ _ _ _ _=>KR E s Q lo0 n lo hi l u op
 | @It.app _ Q R Q' n n' _ _ _ _ _ sr=>Gc E pks s true Q Q R Q' n n' sr op d
 | @It.aad _ Q P R Q' n n' _ _ _ _ _ _ sr=>Gc E pks s false Q P R Q' n n' sr op d
 | @It.cpy _ Q R Q' lo n m _ _ _ _ sr=>Rf E s Q R Q' lo n m sr op
 | @It.chr _ b n c _=>Rg E s b n c op
 |_=>none
theorem Iw {pks:List Nat} {op:Op} {d:Option Nat} {it:It E} {r:Res} (hB:BOK pks B) (h:Qi E pks s op d it=some r):eX E B op s r:=by
 cases it with
 | @eqv x y h0=>
  obtain ⟨r',h1,h2⟩:=af (show aj (nR E pks s op d) (fun r=>some (r.1,y,r.2.2.1,(r.2.1,x)::r.2.2.2))=some r from h)
  cases h2;intro ho;have key:=qX hB h1 ho.2;have e1:r'.2.1=x:=ho.1;show aP E B op s r'.1 y r'.2.2.1;rw[<-h0,<-e1];exact key
 |idx h0=>exact Y7 h0 h
 |idb h0 hk=>exact Y8 h0 hk h
 |row h0=>exact Y2 h0 h
 |hol h0 hQ=>exact Za h0 hQ h
 |hst hu=>exact Y9 hu h
 |nz h0=>exact aeK h0 h
 |cat h0=>exact Zf h0 h
 |mk h1 h2 hl hm ms hQ=>exact aeL hB h1 h2 hl hm ms hQ h
 |sto h0 hQ=>exact Y1 h0 hQ h
 |nxt h0=>exact Y4 h0 h
 |fin h0=>exact Zb h0 h
 |lkp ok h0=>exact Y6 h0 h
 |upd h0=>exact Y0 h0 h
 | @laid x y h0=>
  obtain ⟨K,hd,h⟩:=af (show aj d (fun K=>sel (iF pks s K) (aj (vQ E s K op) fun p=>some (s.set K y,p.2,some (K,true),[(bxA p.1,bxA x)])) none)=some r from h)
  obtain ⟨h1,h⟩:=ar h;obtain ⟨p,h2,h⟩:=af h;cases h;intro ho;obtain ⟨a,b⟩:=kh hB h1;have e1:p.1=x:=B6 ho.1;have key:=EY a b h2;rw[e1,h0] at key;exact key
 |nrm m=>
  obtain ⟨r',h1,h2⟩:=af (show aj (nR E pks s op d) (fun r=>some (r.1,m.app r.2.1,r.2.2.1,r.2.2.2))=some r from h)
  cases h2;exact fun ho=>(qX hB h1 ho).weak m
 |cut h1 h2 hlu hum hR=>exact Zc h1 h2 hlu hum hR h
 |wM h2 h3 hum hR=>exact W1 h2 h3 hum hR h
 |Ep h1 h2 hlu hum hn=>exact W0 h1 h2 hlu hum hn h
 |app hn hn6 hR hQ hl sr=>subst hn;exact KT hB (fun _=>rfl) List.take_length (Nat.le_refl _) hn6 hR hQ hl h
 |aad hP hn hn6 hR hQ hl sr=>exact KT hB (fun e=>by cases e) hP hn hn6 hR hQ hl h
 |cpy hn hm hQ' hne sr=>exact Zd hn hm hQ' hne h
 |chr h0=>exact Ze h0 h
 |call|frz|ren|shr|opn|clo|DE|r7|tX|DI|born|norm|seq|beq=>cases h
end
end Go.Sim
end
