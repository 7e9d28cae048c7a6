/- Texts that belong together. The first: The iterator over a text; maps. -/
import Derived.Test.YtmealahmjddpcaaGreatDoorP5
set_option linter.all false
noncomputable section
namespace Go.Sim
section
variable {F F':Hf} {g g':Gb} {B:Bs} {φ:Nat->List Nat} {s s' s1:LS} {tm:Tf} {h:Hs} {hp:Hf} {E:Env} {nt:Nat} {all l:List Oper}
theorem aeH {it:Operand} {K pos:Nat} {b:ByteArray} (ha:aK s.ts it= .it K) (hb:lk K s.bs=some (.iter b pos)) (hlt:pos<b.size):aO E B (.next it true) s (s.set K (.iter b (pos+(Utf8.decode b pos).2))) (.tup [.bool true,.int .i64 (pos:Int),.int .i32 (Utf8.decode b pos).1]) (some (K,false)):=aO.wr hb fun {F g φ tm h new} r=>by
 obtain ⟨v,v1,v2⟩:=r.val ha (by simp)
 cases v2;have q:=r.bx K _ hb;generalize φ K=fp at q ⊢;cases q with
 |iter hh=>
 refine ⟨.tup [.bool true,kZ pos,.int .i32 (.lit (Utf8.decode b pos).1)],.iN b (pos+(Utf8.decode b pos).2),?_,.tup (.cons (.bool _) (.cons (.int _ _) (.cons (.int _ _) .nil))),rfl,fun hp' hh'=>.iter hh'⟩
 show one tm it (mF h.hp.get true)=_;unfold one;rw[v1];show ai (mi (.ptr (g.ρ K) 0)) (fun id=>ai (rV (h.hp.get id)) fun p=>some (iP id p))=_
 show ai (rV (h.hp.get (g.ρ K))) (fun p=>some (iP (g.ρ K) p))=_
 rw[hh];show some (iP (g.ρ K) (b,pos))=_;unfold iP;rw[show Nat.ble (Nat.succ pos) b.size=true from Nat.ble_eq_true_of_le hlt];rfl
theorem Ql {it:Operand} {K pos:Nat} {b:ByteArray} (ha:aK s.ts it= .it K) (hb:lk K s.bs=some (.iter b pos)) (hlt:¬pos<b.size):aO E B (.next it true) s s (.tup [.bool false]) none:=aO.pure fun {F g φ tm h new} r=>by
 obtain ⟨v,v1,v2⟩:=r.val ha (by simp)
 cases v2;have q:=r.bx K _ hb;generalize φ K=fp at q;cases q with
 |iter hh=>
 refine ⟨.tup [.bool false],?_,.tup (.cons (.bool _) .nil)⟩;show one tm it (mF h.hp.get true)=_;unfold one;rw[v1];show ai (rV (h.hp.get (g.ρ K))) (fun p=>some (iP (g.ρ K) p))=_
 rw[hh];show some (iP (g.ρ K) (b,pos))=_;unfold iP;have:Nat.ble (Nat.succ pos) b.size=false:=by
  cases hx:Nat.ble (Nat.succ pos) b.size with
  |false=>rfl
  |true=>exact absurd (Nat.le_of_ble_eq_true hx) hlt
 rw[this]
def Bq:AV->AV->Option Bool
 | .str a,.str b=>some (decide (a=b))
 | .bool a,.bool b=>some (a==b)
 | .int k a,.int k' b=>sel (cn k k') (some (decide (a=b))) none
 |_,_=>none
def KG:AV->UD->Bool
 | .str _,d=>ow d
 | .bool _,d=>xD d
 | .int k _,d=>Q6 k d
 |_,_=>false
def iG (k:AV):List (AV×AV)->Option (Option (Nat×AV))
 | []=>some none
 |e::es=>
  match Bq k e.1 with
  |some true=>some (some (0,e.2))
  |some false=>(match iG k es with|some (some p)=>some (some (p.1+1,p.2))|r=>r)
  |none=>none
theorem QH {a b:IntKind} (h:cn a b=true):a=b:=by cases a<;>cases b<;>first|rfl|(cases h;done)
theorem Zh {k x:AV} {u v:SV} {b:Bool} (hu:VA F g u k) (hv:VA F g' v x) (hb:Bq k x=some b):sameKey u v=some b:=by
 unfold Bq at hb;split at hb
 ·cases hb;cases hu;cases hv;show some (qk _ _)=_;rw[mo]
 ·cases hb;cases hu;cases hv;rfl
 ·obtain ⟨hk,hb⟩:=ar hb;cases hb;cases hu;cases hv;show sel (cn _ _) (some (uq _ _)) none=_;rw[hk,nr]
 ·cases hb
theorem O8 {k:AV} {u:SV} {d:UD} (hu:VA F g u k) (hd:KG k d=true):tu u d=true:=by
 cases k<;>first|(cases hd;done)|skip
 ·cases hu;exact hd
 ·cases hu;exact (show (true&&Q6 _ d)=true by rw[Bool.true_and];exact hd)
 ·cases hu;exact hd
theorem El {k:AV} {u:SV} (hu:VA F g u k):∀{es:List (AV×AV)} {ms:List (SV×SV×Nat)} (j:Nat),VAs F .no (ms.map (·.1)) (es.map (·.1))->VAs F .no (ms.map (·.2.1)) (es.map (·.2))->
  (iG k es=some none->iH u ms j=some none)/\∀i x,iG k es=some (some (i,x))->∃v c,iH u ms j=some (some (j+i,v,c))/\VA F .no v x/\es[i]? =some (k,x)/\i<ms.length
 | [],[],j,_,_=>⟨fun _=>rfl,fun i x h=>by cases h⟩
 | [],m::ms,j,h,_=>by cases h
 |e::es,[],j,h,_=>by cases h
 |e::es,m::ms,j,h1,h2=>by
  cases h1 with|cons a1 t1=>
  cases h2 with|cons a2 t2=>
  obtain ⟨i1,i2⟩:=El hu (es:=es) (ms:=ms) (Nat.add j 1) t1 t2;have step:∀b,Bq k e.1=some b->sameKey u m.1=some b:=fun b hb=>Zh hu a1 hb
  constructor
  ·intro hf;unfold iG at hf;unfold iH;split at hf
   ·cases hf
   ·rename_i hk;rw[step _ hk];show iH u ms (Nat.add j 1)=_;split at hf
    ·cases hf
    ·exact i1 hf
   ·cases hf
  ·intro i x hf;unfold iG at hf;unfold iH;split at hf
   ·rename_i hk;cases hf;rw[step _ hk];refine ⟨m.2.1,m.2.2,rfl,a2,?_,by simp⟩
    have:k=e.1:=by
     unfold Bq at hk;split at hk
     ·simp at hk;subst hk;symm;assumption
     ·simp at hk;subst hk;symm;assumption
     ·obtain ⟨hkk,hk⟩:=ar hk;have hab:=of_decide_eq_true (Option.some.inj hk);have hkb:=QH hkk;subst hab;subst hkb;symm;assumption
     ·cases hk
    simp[this]
   ·rename_i hk;rw[step _ hk];show ∃v c,iH u ms (Nat.add j 1)=_/\_;split at hf
    ·rename_i p hp;cases hf;obtain ⟨v,c,b1,b2,b3,b4⟩:=i2 p.1 p.2 hp;refine ⟨v,c,?_,b2,by simpa using b3,by simpa using b4⟩
     rw[b1,show Nat.add j 1+p.1=j+(p.1+1) from by show j+1+p.1=_;omega]
    ·rename_i hne;exact absurd hf (hne _)
   ·cases hf
def Kw (E:Env) (t:TypeId):Option (TI×TI):=ai (E.ty.get t) fun i=>ai (qB i.desc) fun q=>aC (E.ty.get q.1) (E.ty.get q.2) fun a b=>some (a,b)
theorem Fh {t:TypeId} {p:TI×TI} (h:Kw E t=some p):∃i q,E.ty.get t=some i/\qB i.desc=some q/\E.ty.get q.1=some p.1/\E.ty.get q.2=some p.2:=by
 obtain ⟨i,hi,h⟩:=ae h;obtain ⟨q,hq,h⟩:=ae h;obtain ⟨a,b,h1,h2,h⟩:=av h;cases h;exact ⟨i,q,hi,hq,h1,h2⟩
def okM (ok:Bool) (v:AV) (b:Bool):AV:=sel ok (.tup [v,.bool b]) v
theorem Ko {ok b:Bool} {v:SV} {x:AV} (h:VA F g v x):VA F g (okV ok v b) (okM ok x b):=by
 cases ok
 ·exact h
 ·exact .tup (.cons h (.cons (.bool b) .nil))
def wA (ok:Bool) (z:Option AV):Option (Nat×AV)->Option AV
 |some r=>some (okM ok r.2 true)
 |none=>ai z fun z=>some (okM ok z false)
theorem WY {t:TypeId} {a c:Operand} {ok:Bool} {p:TI×TI} {K:Nat} {es:List (AV×AV)} {k x:AV} {f:Option (Nat×AV)} (hp:Kw E t=some p) (ha:aK s.ts a= .mp K) (hc:aK s.ts c=k) (hk:KG k p.1.desc=true) (hb:lk K s.bs=some (.map es)) (hf:iG k es=some f) (hx:wA ok (gI p.2 (eC p.2.zero) 0) f=some x) (hkx:(bR x).isEmpty=true):aO E B (.lookup t a c ok) s s x none:=aO.bi (f:=fun hp a b=>same (ka E hp t a b ok)) (fun _ _ _=>rfl) ha (by simp) hc (fun e=>by subst e;cases hk) fun {F g φ tm h v w} r hv hw=>by
 obtain ⟨i,q,hi,hq,h1,h2⟩:=Fh hp;cases hv;have q0:=r.bx K _ hb;generalize φ K=fp at q0;cases q0 with
 | @map _ ms cl hh hks hvs=>
 obtain ⟨m1,m2⟩:=El hw 0 hks hvs;have key:∃r,iH w ms 0=some r/\∃u,wz ok (cP p.2 p.2.zero 0) r=some u/\VA F g u x:=by
  cases f with
  |none=>
   obtain ⟨z,hz,hx⟩:=ae hx;cases hx;obtain ⟨u,u1,u2⟩:=j8 (jJ (F:=F) (g:=.no) p.2.zero) hz;exact ⟨none,m1 hf,okV ok u false,by show ai (cP p.2 p.2.zero 0) (fun z=>some (okV ok z false))=_;rw[u1];rfl,(Ko u2).fY hkx⟩
  |some r=>
   cases hx;obtain ⟨v,c,b1,b2,_,_⟩:=m2 r.1 r.2 hf;exact ⟨_,b1,okV ok v true,rfl,(Ko b2).fY hkx⟩
 obtain ⟨r',k1,u,u1,u2⟩:=key;refine ⟨u,?_,u2⟩;show same (ka E h.hp.get t (.mp (g.ρ K)) w ok)=_;unfold ka;rw[cK hi,cK hq,mf h1 h2,O8 hw hk];show same (ai (ai (jy (h.hp.get (g.ρ K))) fun p=>some p.1) fun es=>ai (iH w es 0) fun r=>wz ok (cP p.2 p.2.zero 0) r)=_
 rw[hh];show same (ai (iH w ms 0) fun r=>wz ok (cP p.2 p.2.zero 0) r)=_
 rw[k1];show same (wz ok (cP p.2 p.2.zero 0) r')=_;rw[u1];rfl
def CY (es:List (AV×AV)) (k v:AV):Option (Nat×AV)->List (AV×AV)
 |some r=>es.set r.1 (k,v)
 |none=>es++ [(k,v)]
theorem VAs.set:∀{vs xs} {i:Nat} {v:SV} {x:AV},VAs F g vs xs->VA F g v x->VAs F g (vs.set i v) (xs.set i x)
 |_,_,_,_,_,.nil,_=>.nil
 |_,_,0,_,_,.cons _ t,k=>.cons k t
 |_,_,i+1,_,_,.cons h t,k=>.cons h (t.set k)
theorem WU {op:Op} {t:TypeId} {a c d:Operand} {p:TI×TI} {K:Nat} {es:List (AV×AV)} {k x:AV} {f:Option (Nat×AV)} (hop:∀tm hp new,opA E op tm hp new=two tm a c fun a b=>one tm d fun c=>unit (lV E hp t a b c)) (hp:Kw E t=some p) (ha:aK s.ts a= .mp K) (hc:aK s.ts c=k) (hk:KG k p.1.desc=true) (hd:aK s.ts d=x) (hx:x≠ .undef) (hkx:(bR x).isEmpty=true) (hb:lk K s.bs=some (.map es)) (hf:iG k es=some f):
  aO E B op s (s.set K (.map (CY es k x f))) (.tup []) (some (K,false)):=aO.wr hb fun {F g φ tm h new} r=>by
 obtain ⟨i,q,hi,hq,h1,h2⟩:=Fh hp;obtain ⟨v,v1,v2⟩:=r.val ha (by simp)
 obtain ⟨w,w1,w2⟩:=r.val hc (fun e=>by subst e;cases hk)
 obtain ⟨u,u1,u2⟩:=r.val hd hx;cases v2;have hkk:(bR k).isEmpty=true:=by cases k<;>first|(cases hk;done)|rfl
 have q0:=r.bx K _ hb;generalize φ K=fp at q0 ⊢;cases q0 with
 | @map _ ms cl hh hks hvs=>
 obtain ⟨m1,m2⟩:=El w2 0 hks hvs;have key:∃r,iH w ms 0=some r/\∃ms' cl',CZ ms cl w u r= .map ms' cl'/\VAs F .no (ms'.map (·.1)) ((CY es k x f).map (·.1))/\VAs F .no (ms'.map (·.2.1)) ((CY es k x f).map (·.2)):=by
  cases f with
  |none=>
   refine ⟨none,m1 hf,ms++ [(w,u,cl)],Nat.add cl 1,rfl,?_,?_⟩
   ·show VAs F .no ((ms++ [(w,u,cl)]).map (·.1)) ((es++ [(k,x)]).map (·.1))
    rw[List.map_append,List.map_append];exact hks.append (.cons (w2.fY hkk) .nil)
   ·show VAs F .no ((ms++ [(w,u,cl)]).map (·.2.1)) ((es++ [(k,x)]).map (·.2))
    rw[List.map_append,List.map_append];exact hvs.append (.cons (u2.fY hkx) .nil)
  |some r=>
   obtain ⟨v,c,b1,b2,b3,b4⟩:=m2 r.1 r.2 hf;refine ⟨_,b1,ms.set (0+r.1) (w,u,c),cl,rfl,?_,?_⟩
   ·show VAs F .no ((ms.set (0+r.1) (w,u,c)).map (·.1)) ((es.set r.1 (k,x)).map (·.1))
    rw[List.map_set,List.map_set,Nat.zero_add];exact hks.set (w2.fY hkk)
   ·show VAs F .no ((ms.set (0+r.1) (w,u,c)).map (·.2.1)) ((es.set r.1 (k,x)).map (·.2))
    rw[List.map_set,List.map_set,Nat.zero_add];exact hvs.set (u2.fY hkx)
 obtain ⟨r',k1,ms',cl',k2,k3,k4⟩:=key;refine ⟨.tup [],.map ms' cl',?_,.tup .nil,rfl,fun hp' hh'=>.map hh' k3 k4⟩
 rw[hop];unfold two one;rw[v1,w1];show ai (aI tm d) (fun c=>unit (lV E h.hp.get t (.mp (g.ρ K)) w c))=_
 rw[u1];show unit (lV E h.hp.get t (.mp (g.ρ K)) w u)=_;have e1:lV E h.hp.get t (.mp (g.ρ K)) w u=some [(g.ρ K,some (.map ms' cl'))]:=by
  show ai (E.ty.get t) (fun i=>ai (qB i.desc) fun q=>aC (E.ty.get q.1) (jy (h.hp.get (g.ρ K))) fun ik p=>sel (tu w ik.desc) (ai (iH w p.1 0) fun r=>some [(g.ρ K,some (CZ p.1 p.2 w u r))]) none)=_
  rw[cK hi,cK hq,hh];show aC (E.ty.get q.1) (some (ms,cl)) (fun ik p=>sel (tu w ik.desc) (ai (iH w p.1 0) fun r=>some [(g.ρ K,some (CZ p.1 p.2 w u r))]) none)=_
  rw[mf h1 rfl,O8 w2 hk];show ai (iH w ms 0) (fun r=>some [(g.ρ K,some (CZ ms cl w u r))])=_
  rw[k1];show some [(g.ρ K,some (CZ ms cl w u r'))]=_;rw[k2]
 rw[e1];rfl
end
section
variable {F F':Hf} {g g':Gb} {B:Bs} {φ:Nat->List Nat} {s s' s1:LS} {tm:Tf} {h:Hs} {hp:Hf} {E:Env} {nt:Nat} {all l:List Oper}
def Lz (F:Hf) (g:Gb) (φ:Nat->List Nat) (bs:List (Nat×Bx)) (h:Hs):Bs:=⟨h.hp.get,F,g,h.nx,fun k=>(lk k bs).isSome,φ⟩
def Ent (F:Hf) (g:Gb) (φ:Nat->List Nat) (bs:List (Nat×Bx)) (h:Hs):Prop:=Rel (Lz F g φ bs h) F g φ ⟨[],bs⟩ (fun _=>none) ⟨h.hp,h.nx,[]⟩
structure bl (E:Env) (f:Nat) (bs:List (Nat×Bx)) (xs:List AV) (y:AV) (bs':List (Nat×Bx)):Prop where
 go:∀{F:Hf} {g:Gb} {φ:Nat->List Nat} {h:Hs} {aa:List SV},Ent F g φ bs h->VAs F g aa xs->∃(F':Hf) (g':Gb) (φ':Nat->List Nat) (h1:Hs) (v:SV),bA E (.call (.fn (.func f) [] []) aa h) (.bX [⟨false,v,⟨h1.hp,h1.nx,below h.nx h1.lg h.lg⟩⟩])/\VA F' g' v y/\Rel (Lz F g φ bs h) F' g' φ' ⟨[],bs'⟩ (fun _=>none) h1
abbrev bw:=List (Nat×Nat)
def kn (al:bw):bw:=al.map fun q=>(q.2,q.1)
def fiP (al:bw) (K:Nat):Nat:= @Option.rec Nat (fun _=>Nat) K (fun k=>k) (lk K al)
def foP (al:bw) (k:Nat):Nat:=fiP (kn al) k
def Li (l:bw) (K:Nat):Bool:= @Option.rec Nat (fun _=>Bool) false (fun _=>true) (lk K l)
def fk (l:bw) (ks:List Nat):Bool:=ks.all (Li l)
def pA (al:bw):Bool:=al.all fun q=>Nat.beq (fiP al q.1) q.2&&(Li al q.1&&(Nat.beq (foP al q.2) q.1&&Li (kn al) q.2))
def pd (bs:List (Nat×Bx)) (al:bw):bw->Option (List (Nat×Bx))
 | []=>some []
 |q::l=>aC (lk q.1 bs) (pd bs al l) fun b r=>some ((q.2,b.ren (fiP al))::r)
def uc (bs':List (Nat×Bx)) (al:bw):bw->Option (List (Nat×Bx))
 | []=>some []
 |q::l=>aC (lk q.2 bs') (uc bs' al l) fun b r=>some ((q.1,b.ren (foP al))::r)
def pq (bs:List (Nat×Bx)) (ps:bw):bw->Bool
 | []=>true
 |q::l=>(match lk q.1 bs with|some b=>fk ps b.keys|none=>false)&&pq bs ps l
def pj (bs':List (Nat×Bx)) (al:bw):bw->Bool
 | []=>true
 |q::l=>(match lk q.2 bs' with|some b=>fk (kn al) b.keys|none=>false)&&pj bs' al l
theorem qN {l:bw} {K:Nat} (h:Li l K=true):∃k,lk K l=some k:=by
 unfold Li at h;cases hl:lk K l with
 |none=>rw[hl] at h;cases h
 |some k=>exact ⟨k,rfl⟩
theorem oC {l:bw} {K k:Nat} (h:lk K l=some k):fiP l K=k:=by unfold fiP;rw[h]
theorem aeP {al:bw} {K k:Nat} (hg:pA al=true) (h:lk K al=some k):lk k (kn al)=some K:=by
 have:=(List.all_eq_true.1 hg) (K,k) (ou h);rw[Bool.and_eq_true,Bool.and_eq_true,Bool.and_eq_true] at this;obtain ⟨_,_,h3,h4⟩:=this;obtain ⟨j,hj⟩:=qN h4;have:foP al k=j:=oC hj;rw[hj,<-this];exact congrArg some ((beq_iff _ _).1 h3)
theorem W7 {al:bw} {K k:Nat} (hg:pA al=true) (h:lk k (kn al)=some K):lk K al=some k:=by
 obtain ⟨q,hq,he⟩:=List.mem_map.1 (ou h);have:=(List.all_eq_true.1 hg) q hq;rw[Bool.and_eq_true,Bool.and_eq_true,Bool.and_eq_true] at this;obtain ⟨h1,h2,_,_⟩:=this;cases he;obtain ⟨j,hj⟩:=qN h2;have:fiP al q.1=j:=oC hj;rw[hj,<-this];exact congrArg some ((beq_iff _ _).1 h1)
theorem vX {α:Type} (t:Nat) (b:List (Nat×α)):∀a:List (Nat×α),lk t (a++b)=(lk t a).or (lk t b)
 | []=>rfl
 |(k,x)::a=>by
  rw[List.cons_append,bh,bh];split
  ·rfl
  ·exact vX t b a
theorem OD {bs:List (Nat×Bx)} {al:bw}:∀{l:bw} {r:List (Nat×Bx)} {k:Nat} {b':Bx},pd bs al l=some r->lk k r=some b'->∃K b,(K,k)∈l/\lk K bs=some b/\b'=b.ren (fiP al)
 | [],r,k,b',h,hk=>by cases h;cases hk
 |q::l,r,k,b',h,hk=>by
  obtain ⟨b,r',h1,h2,h3⟩:=av h;cases h3;rw[bh] at hk;split at hk
  ·rename_i e;cases hk;exact ⟨q.1,b,by rw[e];exact List.mem_cons_self,h1,rfl⟩
  ·obtain ⟨K,b0,m1,m2,m3⟩:=OD h2 hk;exact ⟨K,b0,List.mem_cons_of_mem _ m1,m2,m3⟩
theorem J4 {bs:List (Nat×Bx)} {al:bw}:∀{l:bw} {r:List (Nat×Bx)} {K k:Nat},pd bs al l=some r->(K,k)∈l->∃b,lk k r=some b
 | [],r,K,k,h,hk=>by cases hk
 |q::l,r,K,k,h,hk=>by
  obtain ⟨b,r',h1,h2,h3⟩:=av h;cases h3;rw[bh];split
  ·exact ⟨_,rfl⟩
  ·rename_i e;rcases List.mem_cons.1 hk with rfl|hk
   ·exact absurd rfl e
   ·exact J4 h2 hk
theorem WO {bs':List (Nat×Bx)} {al:bw}:∀{l:bw} {r:List (Nat×Bx)} {K:Nat} {b':Bx},uc bs' al l=some r->lk K r=some b'->∃k b,(K,k)∈l/\lk k bs'=some b/\b'=b.ren (foP al)
 | [],r,K,b',h,hk=>by cases h;cases hk
 |q::l,r,K,b',h,hk=>by
  obtain ⟨b,r',h1,h2,h3⟩:=av h;cases h3;rw[bh] at hk;split at hk
  ·rename_i e;cases hk;exact ⟨q.2,b,by rw[e];exact List.mem_cons_self,h1,rfl⟩
  ·obtain ⟨k,b0,m1,m2,m3⟩:=WO h2 hk;exact ⟨k,b0,List.mem_cons_of_mem _ m1,m2,m3⟩
theorem J8 {bs':List (Nat×Bx)} {al:bw}:∀{l:bw} {r:List (Nat×Bx)} {K:Nat},uc bs' al l=some r->lk K r=none->lk K l=none
 | [],r,K,h,hk=>rfl
 |q::l,r,K,h,hk=>by
  obtain ⟨b,r',h1,h2,h3⟩:=av h;cases h3;rw[bh] at hk;rw[show q::l=(q.1,q.2)::l from rfl,bh];split at hk
  ·cases hk
  ·rename_i e;rw[if_neg e];exact J8 h2 hk
theorem Fl {bs:List (Nat×Bx)} {ps:bw}:∀{l:bw} {K k:Nat} {b:Bx},pq bs ps l=true->(K,k)∈l->lk K bs=some b->fk ps b.keys=true
 |q::l,K,k,b,h,hm,hb=>by
  have h:=Bool.and_eq_true_iff.1 (show ((match lk q.1 bs with|some b=>fk ps b.keys|none=>false)&&pq bs ps l)=true from h)
  rcases List.mem_cons.1 hm with rfl|hm
  ·have:=h.1;rw[hb] at this;exact this
  ·exact Fl h.2 hm hb
theorem Fk {bs':List (Nat×Bx)} {al:bw}:∀{l:bw} {K k:Nat} {b:Bx},pj bs' al l=true->(K,k)∈l->lk k bs'=some b->fk (kn al) b.keys=true
 |q::l,K,k,b,h,hm,hb=>by
  have h:=Bool.and_eq_true_iff.1 (show ((match lk q.2 bs' with|some b=>fk (kn al) b.keys|none=>false)&&pj bs' al l)=true from h)
  rcases List.mem_cons.1 hm with rfl|hm
  ·have:=h.1;rw[hb] at this;exact this
  ·exact Fk h.2 hm hb
theorem fG {al:bw} (hg:pA al=true) {K k:Nat} (h:(K,k)∈al):lk K al=some k:=by
 have:=(List.all_eq_true.1 hg) (K,k) h;rw[Bool.and_eq_true,Bool.and_eq_true,Bool.and_eq_true] at this;obtain ⟨h1,h2,_,_⟩:=this;obtain ⟨j,hj⟩:=qN h2;have:fiP al K=j:=oC hj;rw[hj,<-this];exact congrArg some ((beq_iff _ _).1 h1)
theorem Rel.call (r : Rel B F g φ s tm h) {ps rs : bw} {bs bs' ob : List (Nat × Bx)} {xs : List AV} {y : AV} {aa : List SV} {f : Nat} {hh : Hs} {Hd : Nat -> Prop} (hh0 : ∀ x, ¬ Hd x -> hh.hp.get x = h.hp.get x) (hh1 : ∀ x, Hd x -> hh.hp.get x = none /\ F x = none /\ x < h.nx /\ ∀ K k b, (K, k) ∈ ps -> lk K s.bs = some b -> x ∉ φ K) (hhx : hh.nx = h.nx) (hg : pA (ps ++ rs) = true) (hps : pd s.bs (ps ++ rs) ps = some bs) (hkb : pq s.bs ps ps = true) (hkx : fk ps (cM xs) = true) (has : VAs F g aa xs)
    (hrs : ∀ q ∈ rs, s.free q.1 /\ B.pk q.1 = false /\ lk q.1 s.bs = none) (hc : bl E f bs (iD (fiP (ps ++ rs)) xs) y bs') (hob : uc bs' (ps ++ rs) (ps ++ rs) = some ob) (hko : pj bs' (ps ++ rs) (ps ++ rs) = true) (hky : fk (kn (ps ++ rs)) (bR y) = true) :
    ∃ (F' : Hf) (g' : Gb) (φ' : Nat -> List Nat) (h1 : Hs) (v : SV), bA E (.call (.fn (.func f) [] []) aa hh) (.bX [⟨false, v, ⟨h1.hp, h1.nx, below hh.nx h1.lg hh.lg⟩⟩]) /\ VA F' g' v (kh (foP (ps ++ rs)) y) /\
      (∀ h', (∀ x, ¬ Hd x -> h'.hp.get x = h1.hp.get x) -> (∀ x, Hd x -> h'.hp.get x = h.hp.get x) -> h'.nx = h1.nx -> (∀ x ∈ h'.lg, x ∈ h.lg \/ (x ∈ h1.lg /\ x < h.nx)) -> Rel B F' g' φ' ⟨s.ts, ob ++ s.bs⟩ tm h') /\
      Hle F F' /\ (∀ id o, F' id = some o -> F id = some o \/ h.nx <= id) /\ h.nx <= h1.nx /\ (∀ x ∈ h1.lg, x < h.nx -> ∃ K k b, (K, k) ∈ ps /\ lk K s.bs = some b /\ x ∈ φ K) /\
      (∀ k b, lk k (ob ++ s.bs) = some b -> ∀ i ∈ φ' k, (i < h.nx /\ ∃ b, lk k s.bs = some b /\ i ∈ φ k) \/ h.nx <= i) /\ (∀ ks : List Nat, (∀ q ∈ rs, q.1 ∉ ks) -> gq g g' ks) /\ (∀ K, lk K (ps ++ rs) = none -> φ' K = φ K) /\
      ∀ x, x < h.nx -> (∀ K k b, (K, k) ∈ ps -> lk K s.bs = some b -> x ∉ φ K) -> h1.hp.get x = hh.hp.get x := by
  generalize hal : ps ++ rs = al at *
  have qL : ∀ {q}, q ∈ ps -> q ∈ al := fun hq => by rw [<- hal]; exact List.mem_append_left _ hq
  have agF : ∀ {q}, q ∈ rs -> q ∈ al := fun hq => by rw [<- hal]; exact List.mem_append_right _ hq
  let gc : Gb := ⟨fun k => g.ρ (foP al k), fun k => g.κ (foP al k), fun k => g.β (foP al k)⟩
  let φc : Nat -> List Nat := fun k => φ (foP al k)
  have aD : ∀ {K k}, lk K al = some k -> foP al k = K := fun hK => oC (aeP hg hK)
  have hin : ∀ ks, fk ps ks = true -> kL g gc (fiP al) ks := fun ks hk k hks => by
    obtain ⟨j, hj⟩ := qN ((List.all_eq_true.1 hk) k hks)
    have hj' := fG hg (qL (ou hj))
    rw [oC hj']
    have := aD hj'
    exact ⟨congrArg g.ρ this, congrArg g.κ this, congrArg g.β this⟩
  have hbl : ∀ {k b'}, lk k bs = some b' -> ∃ K b, (K, k) ∈ ps /\ lk K s.bs = some b /\ b' = b.ren (fiP al) /\ foP al k = K := fun hk => by
    obtain ⟨K, b, m1, m2, m3⟩ := OD hps hk
    exact ⟨K, b, m1, m2, m3, aD (fG hg (qL m1))⟩
  have rW : ∀ {K k b}, (K, k) ∈ ps -> lk K s.bs = some b -> ∀ i ∈ φ K, hh.hp.get i = h.hp.get i := fun m1 m2 i hi => hh0 i fun e => (hh1 i e).2.2.2 _ _ _ m1 m2 hi
  have ent : Ent F gc φc bs hh := by
    refine ⟨fun t x hx => (by cases hx), fun k b' hk => ?_, fun k k' b1 b2 hk hk' hne i hi => ?_, fun k b' hk i hi => ?_, fun i o ho => ?_, fun x hx => ?_, Nat.le_refl _, fun x _ _ => rfl, Hle.refl F, fun _ _ ho => .inl ho, fun k b' hk i hi => .inl ⟨by show (lk k bs).isSome = true; rw [hk]; rfl, hi⟩, fun x hx => (by cases hx), fun k _ j hj => ⟨rfl, rfl, rfl⟩⟩
    · obtain ⟨K, b, m1, m2, rfl, m4⟩ := hbl hk
      have hK := fG hg (qL m1)
      have q := ((r.bx K b m2).gf (h' := hh.hp.get) (Hle.refl F) fun i hi => rW m1 m2 i hi).ren (g' := gc) (f := fiP al) (fun j hj => by rw [List.mem_singleton.1 hj, oC hK]; exact ⟨congrArg g.ρ m4, congrArg g.κ m4, congrArg g.β m4⟩) (hin _ (Fl hkb m1 m2))
      rw [oC hK] at q
      show cD F gc hh.hp.get k _ (φ (foP al k))
      rw [m4]; exact q
    · obtain ⟨K, b, m1, m2, _, m4⟩ := hbl hk
      obtain ⟨K', b', m1', m2', _, m4'⟩ := hbl hk'
      have hi : i ∈ φ (foP al k) := hi
      show i ∉ φ (foP al k')
      rw [m4] at hi; rw [m4']
      refine r.dj K K' b b' m2 m2' (fun e => hne ?_) i hi
      have e1 := fG hg (qL m1)
      have e2 := fG hg (qL m1')
      rw [e, e2] at e1
      exact (Option.some.inj e1).symm
    · obtain ⟨K, b, m1, m2, _, m4⟩ := hbl hk
      have hi : i ∈ φ (foP al k) := hi
      rw [m4] at hi
      exact r.nf K b m2 i hi
    · exact (hh0 i fun e => by rw [(hh1 i e).2.1] at ho; cases ho).trans (r.sub i o ho)
    · have hx : h.nx <= x := by rw [<- hhx]; exact hx
      exact (hh0 x fun e => by have := (hh1 x e).2.2.1; omega).trans (r.bd x hx)
  obtain ⟨F', g', φ', h1, v, go, hv, r1⟩ := hc.go ent (has.ren (hin _ hkx))
  let rw' : bw := rs
  let g2 : Gb := ⟨fun K => @Option.rec Nat (fun _ => Nat) (g.ρ K) (fun k => g'.ρ k) (lk K al), fun K => @Option.rec Nat (fun _ => Cp) (g.κ K) (fun k => g'.κ k) (lk K al), fun K => @Option.rec Nat (fun _ => Bool) (g.β K) (fun k => g'.β k) (lk K al)⟩
  let φ2 : Nat -> List Nat := fun K => @Option.rec Nat (fun _ => List Nat) (φ K) (fun k => φ' k) (lk K al)
  have ZZ : ∀ {K k}, lk K al = some k -> g2.ρ K = g'.ρ k /\ g2.κ K = g'.κ k /\ g2.β K = g'.β k := fun {K k} hK => by
    show @Option.rec Nat (fun _ => Nat) (g.ρ K) (fun k => g'.ρ k) (lk K al) = _ /\ @Option.rec Nat (fun _ => Cp) (g.κ K) (fun k => g'.κ k) (lk K al) = _ /\ @Option.rec Nat (fun _ => Bool) (g.β K) (fun k => g'.β k) (lk K al) = _
    rw [hK]; exact ⟨rfl, rfl, rfl⟩
  have g2no : ∀ {K}, lk K al = none -> g2.ρ K = g.ρ K /\ g2.κ K = g.κ K /\ g2.β K = g.β K := fun {K} hK => by
    show @Option.rec Nat (fun _ => Nat) (g.ρ K) (fun k => g'.ρ k) (lk K al) = _ /\ @Option.rec Nat (fun _ => Cp) (g.κ K) (fun k => g'.κ k) (lk K al) = _ /\ @Option.rec Nat (fun _ => Bool) (g.β K) (fun k => g'.β k) (lk K al) = _
    rw [hK]; exact ⟨rfl, rfl, rfl⟩
  have rA : ∀ {K k}, lk K al = some k -> φ2 K = φ' k := fun {K k} hK => by
    show @Option.rec Nat (fun _ => List Nat) (φ K) (fun k => φ' k) (lk K al) = _
    rw [hK]
  have oY : ∀ {K}, lk K al = none -> φ2 K = φ K := fun {K} hK => by
    show @Option.rec Nat (fun _ => List Nat) (φ K) (fun k => φ' k) (lk K al) = _
    rw [hK]
  have hpkB : ∀ {K k}, (K, k) ∈ ps -> (lk k bs).isSome = true := fun hq => by
    obtain ⟨b, hb⟩ := J4 hps hq
    rw [hb]; rfl
  have g2ps : ∀ {K k}, (K, k) ∈ ps -> g2.ρ K = g.ρ K /\ g2.κ K = g.κ K /\ g2.β K = g.β K := fun {K k} hq => by
    have hK := fG hg (qL hq)
    obtain ⟨a1, a2, a3⟩ := ZZ hK
    obtain ⟨c1, c2, c3⟩ := r1.pin k (hpkB hq) k (by simp)
    have hb := aD hK
    exact ⟨a1.trans (c1.trans (congrArg g.ρ hb)), a2.trans (c2.trans (congrArg g.κ hb)), a3.trans (c3.trans (congrArg g.β hb))⟩
  have hgs : ∀ ks : List Nat, (∀ q ∈ rs, q.1 ∉ ks) -> gq g g2 ks := fun ks hk K hK => by
    cases hl : lk K al with
    | none => exact g2no hl
    | some k =>
      have hm := ou hl
      rw [<- hal] at hm
      rcases List.mem_append.1 hm with hm | hm
      · exact g2ps hm
      · exact absurd hK (hk _ hm)
  have Re : ∀ ks, fk (kn al) ks = true -> kL g' g2 (foP al) ks := fun ks hk k hks => by
    obtain ⟨K, hK⟩ := qN ((List.all_eq_true.1 hk) k hks)
    have e : foP al k = K := oC hK
    rw [e]
    exact ZZ (W7 hg hK)
  have lkb : ∀ {K b}, lk K (ob ++ s.bs) = some b -> (∃ k b0, (K, k) ∈ al /\ lk k bs' = some b0 /\ b = b0.ren (foP al)) \/ (lk K al = none /\ lk K s.bs = some b) := fun {K b} hK => by
    rw [vX] at hK
    cases ho : lk K ob with
    | none => rw [ho] at hK; exact .inr ⟨J8 hob ho, hK⟩
    | some b1 =>
      rw [ho] at hK
      cases hK
      exact .inl (WO hob ho)
  have Bf : ∀ {K k b0}, (K, k) ∈ al -> lk k bs' = some b0 -> ∀ i ∈ φ' k, (i < h.nx /\ (K, k) ∈ ps /\ ∃ b, lk K s.bs = some b /\ i ∈ φ K) \/ h.nx <= i := fun {K k b0} hm hb i hi => by
    rcases r1.g7 k b0 hb i hi with ⟨c1, c2⟩ | c
    · have c1 : (lk k bs).isSome = true := c1
      obtain ⟨b', hb'⟩ := Option.isSome_iff_exists.1 c1
      obtain ⟨K', b, m1, m2, _, m4⟩ := hbl hb'
      have hKK : K' = K := by rw [<- m4]; exact aD (fG hg hm)
      subst hKK
      have c2 : i ∈ φ (foP al k) := c2
      rw [m4] at c2
      exact .inl ⟨r.lt m2 i c2, m1, b, m2, c2⟩
    · exact .inr (by rw [<- hhx]; exact c)
  have hold : ∀ x, x < h.nx -> (∀ K k b, (K, k) ∈ ps -> lk K s.bs = some b -> x ∉ φ K) -> h1.hp.get x = hh.hp.get x := fun x hx hno => r1.old x (show x < hh.nx by rw [hhx]; exact hx) fun k hp => by
    have c1 : (lk k bs).isSome = true := hp.1
    obtain ⟨b', hb'⟩ := Option.isSome_iff_exists.1 c1
    obtain ⟨K', b, m1, m2, _, m4⟩ := hbl hb'
    have c2 : x ∈ φ (foP al k) := hp.2
    rw [m4] at c2
    exact hno K' k b m1 m2 c2
  refine ⟨F', g2, φ2, h1, v, go, hv.ren (Re _ hky), fun h' hx0 hx1 hn' hl' => ?_, r1.f0, fun id o ho => ?_, ?_, fun x hx hlt => ?_, fun K b hK i hi => ?_, hgs, fun K hK => oY hK, hold⟩
  rotate_left
  · rcases r1.fn id o ho with c | c
    · exact .inl c
    · exact .inr (by rw [<- hhx]; exact c)
  · have : hh.nx <= h1.nx := r1.nx
    omega
  · rcases r1.lg x hx with ⟨k, c1, c2⟩ | c
    · have c1 : (lk k bs).isSome = true := c1
      obtain ⟨b', hb'⟩ := Option.isSome_iff_exists.1 c1
      obtain ⟨K', b, m1, m2, _, m4⟩ := hbl hb'
      have c2 : x ∈ φ (foP al k) := c2
      rw [m4] at c2
      exact ⟨K', k, b, m1, m2, c2⟩
    · have c : hh.nx <= x := c
      omega
  · rcases lkb hK with ⟨k, b0, m1, m2, _⟩ | ⟨m1, m2⟩
    · rw [rA (fG hg m1)] at hi
      rcases Bf m1 m2 i hi with ⟨c1, _, c2⟩ | c
      · exact .inl ⟨c1, c2⟩
      · exact .inr c
    · rw [oY m1] at hi
      exact .inl ⟨r.lt m2 i hi, b, m2, hi⟩
  have nx1 : h.nx <= h1.nx := by have : hh.nx <= h1.nx := r1.nx; omega
  have hpk : ∀ {K k b0}, (K, k) ∈ al -> lk k bs' = some b0 -> ∀ i ∈ φ' k, h'.hp.get i = h1.hp.get i := fun hm hb i hi => hx0 i fun e => by
    rcases Bf hm hb i hi with ⟨_, m1, b, m2, m3⟩ | c
    · exact (hh1 i e).2.2.2 _ _ _ m1 m2 m3
    · have := (hh1 i e).2.2.1; omega
  have adv : ∀ x, x < h.nx -> (∀ K k b, (K, k) ∈ ps -> lk K s.bs = some b -> x ∉ φ K) -> h'.hp.get x = h.hp.get x := fun x hx hno => by
    by_cases e : Hd x
    · exact hx1 x e
    · rw [hx0 x e, hold x hx hno, hh0 x e]
  have ZL : ∀ {K}, lk K al = none -> ∀ {b}, lk K s.bs = some b -> ∀ i ∈ φ K, ∀ K' k' b', (K', k') ∈ ps -> lk K' s.bs = some b' -> i ∉ φ K' := fun {K} hK {b} hb i hi K' k' b' hp hb' => r.dj K K' b b' hb hb' (fun e => by
    have := fG hg (qL hp)
    rw [<- e, hK] at this; cases this) i hi
  have hF0 : ∀ {i}, i < h.nx -> F i = none -> F' i = none := fun {i} hlt hf => by
    cases hF' : F' i with
    | none => rfl
    | some o => rcases r1.fn i o hF' with c | c
                · have c : F i = some o := c; rw [hf] at c; cases c
                · have c : hh.nx <= i := c; omega
  refine ⟨fun t x hx hn => ?_, fun K b hK => ?_, fun K K' b b2 hK hK' hne i hi => ?_, fun K b hK i hi => ?_, fun i o ho => ?_, fun x hx => ?_, ?_, fun x hx hp => ?_, r.f0.trans r1.f0, fun id o ho => ?_, fun K b hK i hi => ?_, fun x hx => ?_, fun K hK => ?_⟩
  · obtain ⟨v, v1, v2⟩ := r.tm t x hx hn
    exact ⟨v, v1, (v2.mono r1.f0).gb (hgs _ fun q hq => (hrs q hq).1.1 t x hx)⟩
  · rcases lkb hK with ⟨k, b0, m1, m2, rfl⟩ | ⟨m1, m2⟩
    · have hKl := fG hg m1
      rw [rA hKl]
      have q := ((r1.bx k b0 m2).gf (h' := h'.hp.get) (Hle.refl F') fun i hi => hpk m1 m2 i hi).ren (g' := g2) (f := foP al) (fun j hj => by rw [List.mem_singleton.1 hj, aD hKl]; exact ZZ hKl) (Re _ (Fk hko m1 m2))
      rwa [aD hKl] at q
    · rw [oY m1]
      have q := ((r.bx K b m2).gf (h' := h'.hp.get) r1.f0 fun i hi => adv i (r.lt m2 i hi) (ZL m1 m2 i hi))
      exact q.gb (fun j hj => by rw [List.mem_singleton.1 hj]; exact g2no m1) (hgs _ fun q hq => fun hc => (hrs q hq).1.2 K b (fun e => by have := fG hg (agF (show (q.1, q.2) ∈ rs from hq)); rw [<- e, m1] at this; cases this) m2 hc)
  · rcases lkb hK with ⟨k, b0, m1, m2, _⟩ | ⟨m1, m2⟩ <;> rcases lkb hK' with ⟨k', b0', m1', m2', _⟩ | ⟨m1', m2'⟩
    · rw [rA (fG hg m1)] at hi
      rw [rA (fG hg m1')]
      refine r1.dj k k' b0 b0' m2 m2' (fun e => hne ?_) i hi
      have e1 := aD (fG hg m1)
      have e2 := aD (fG hg m1')
      rw [<- e1, <- e2, e]
    · rw [rA (fG hg m1)] at hi
      rw [oY m1']
      intro hc
      rcases Bf m1 m2 i hi with ⟨_, c1, b3, c2, c3⟩ | c
      · exact ZL m1' m2' i hc K k b3 c1 c2 c3
      · have := r.lt m2' i hc; omega
    · rw [oY m1] at hi
      rw [rA (fG hg m1')]
      intro hc
      rcases Bf m1' m2' i hc with ⟨_, c1, b3, c2, c3⟩ | c
      · exact ZL m1 m2 i hi K' k' b3 c1 c2 c3
      · have := r.lt m2 i hi; omega
    · rw [oY m1] at hi
      rw [oY m1']
      exact r.dj K K' b b2 m2 m2' hne i hi
  · rcases lkb hK with ⟨k, b0, m1, m2, _⟩ | ⟨m1, m2⟩
    · rw [rA (fG hg m1)] at hi; exact r1.nf k b0 m2 i hi
    · rw [oY m1] at hi; exact hF0 (r.lt m2 i hi) (r.nf K b m2 i hi)
  · refine (hx0 i fun e => ?_).trans (r1.sub i o ho)
    obtain ⟨_, e1, e2, _⟩ := hh1 i e
    rw [hF0 e2 e1] at ho; cases ho
  · rw [hn'] at hx
    exact (hx0 x fun e => by have := (hh1 x e).2.2.1; omega).trans (r1.bd x hx)
  · rw [hn']; exact Nat.le_trans r.nx nx1
  · have hlt : x < h.nx := Nat.lt_of_lt_of_le hx r.nx
    rw [adv x hlt fun K k b m1 m2 hc => ?_]
    · exact r.old x hx hp
    · rcases r.g7 K b m2 x hc with c | c
      · exact hp K c
      · omega
  · rcases r1.fn id o ho with c | c
    · exact r.fn id o c
    · have c : hh.nx <= id := c
      have := r.nx
      exact .inr (by omega)
  · rcases lkb hK with ⟨k, b0, m1, m2, _⟩ | ⟨m1, m2⟩
    · rw [rA (fG hg m1)] at hi
      rcases Bf m1 m2 i hi with ⟨_, _, b3, c2, c3⟩ | c
      · exact r.g7 K b3 c2 i c3
      · have := r.nx; exact .inr (by omega)
    · rw [oY m1] at hi; exact r.g7 K b m2 i hi
  · rcases hl' x hx with c | ⟨c1, c2⟩
    · exact r.lg x c
    · rcases r1.lg x c1 with ⟨k, d1, d2⟩ | d
      · have d1 : (lk k bs).isSome = true := d1
        obtain ⟨b', hb'⟩ := Option.isSome_iff_exists.1 d1
        obtain ⟨K', b, m1, m2, _, m4⟩ := hbl hb'
        have d2 : x ∈ φ (foP al k) := d2
        rw [m4] at d2
        exact (r.g7 K' b m2 x d2).elim (fun c => .inl ⟨K', c⟩) .inr
      · have d : hh.nx <= x := d
        omega
  · intro j hj
    have ej : j = K := by simpa using hj
    subst ej
    obtain ⟨c1, c2, c3⟩ := r.pin j hK j (by simp)
    obtain ⟨e1, e2, e3⟩ := hgs [j] (fun q hq hc => by
      have : q.1 = j := by simpa using Eq.symm (List.mem_singleton.1 hc) |>.symm
      have hpk' := (hrs q hq).2.1
      rw [this, hK] at hpk'; cases hpk') j (by simp)
    exact ⟨e1.trans c1, e2.trans c2, e3.trans c3⟩
end
section
variable {F F':Hf} {g g':Gb} {B:Bs} {φ:Nat->List Nat} {s s' s1:LS} {tm:Tf} {h:Hs} {hp:Hf} {E:Env} {nt:Nat} {all l:List Oper}
theorem hY.call {p:Oper} {c:Call} {o:Operand} {f:Nat} {ps rs:bw} {bs bs' ob:List (Nat×Bx)} {fi ca xs:List AV} {y:AV} (hd:cm nt p.dst=true) (hw:jL all p s.ts=some true) (hc:dG p.op=some c) (hf:c.callee= .value o) (hfv:aK s.ts o= .fn f fi ca) (hxs:fi++gh s.ts c.args.toList++ca=xs) (hu:fg (gh s.ts c.args.toList)=true)
  (hg:pA (ps++rs)=true) (hps:pd s.bs (ps++rs) ps=some bs) (hkb:pq s.bs ps ps=true) (hkx:fk ps (cM xs)=true) (hrs:∀q∈rs,s.free q.1/\B.pk q.1=false/\lk q.1 s.bs=none) (hC:bl E f bs (iD (fiP (ps++rs)) xs) y bs') (hob:uc bs' (ps++rs) (ps++rs)=some ob) (hko:pj bs' (ps++rs) (ps++rs)=true) (hky:fk (kn (ps++rs)) (bR y)=true)
  (hl:hY E nt B all l (LS.bc ⟨s.ts,ob++s.bs⟩ p.dst (kh (foP (ps++rs)) y)) s'):hY E nt B all (p::l) s s':=fun F g φ tm h r=>by
 subst hxs;obtain ⟨aa,a1,a2⟩:=r.bE hu;obtain ⟨fv,f1,f2⟩:=r.val hfv (by simp)
 obtain ⟨fs,cs,rfl,h1,h2⟩:∃fs cs,fv= .fn (.func f) fs cs/\VAs F g fs fi/\VAs F g cs ca:=by
  cases f2 with
  |fn _ h1 h2=>exact ⟨_,_,rfl,h1,h2⟩
 replace a2:=(h1.append a2).append h2;obtain ⟨F',g',φ',h1,v,go,hv,hr,_⟩:=r.call (hh:=h) (Hd:=fun _=>False) (fun _ _=>rfl) (fun _ hc=>hc.elim) rfl hg hps hkb hkx a2 hrs hC hob hko hky
 have r2:=hr ⟨h1.hp,h1.nx,below h.nx h1.lg h.lg⟩ (fun _ _=>rfl) (fun _ hc=>hc.elim) rfl (fun x hx=>by
  have hb:∀(l acc:List Nat),x∈below h.nx l acc->x∈acc\/(x∈l/\x<h.nx):=fun l=>by
   induction l with
   |nil=>exact fun acc hx=>.inl hx
   |cons y l ih=>
    intro acc hx;have hx:x∈sel (Nat.ble (Nat.succ y) h.nx) (below h.nx l (y::acc)) (below h.nx l acc):=hx;rw[aA] at hx;split at hx
    ·rename_i hlt;rcases ih _ hx with c|c
     ·rcases List.mem_cons.1 c with rfl|c
      ·exact .inr ⟨by simp,Nat.le_of_ble_eq_true hlt⟩
      ·exact .inl c
     ·exact .inr ⟨List.mem_cons_of_mem _ c.1,c.2⟩
    ·rcases ih _ hx with c|c
     ·exact .inl c
     ·exact .inr ⟨List.mem_cons_of_mem _ c.1,c.2⟩
  exact hb _ _ hx)
 obtain ⟨F2,g2,φ2,tm',h',r',q⟩:=hl F' g' φ' _ _ (r2.bc (d:=p.dst) fun _=>hv)
 exact ⟨F2,g2,φ2,tm',h',r',.aeF hd (pU r hw) hc (by rw[hf];exact f1) a1 go.dr q⟩
inductive KI where
 |code (c:Code)|block (id:Nat)|loop (c:Code)
def resume (E:Env) (nt:Nat) (P:Ex->Tr SV->Hs->Prop):List KI->Ex->Tr SV->Hs->Prop
 | [],e,tm,h=>P e tm h
 | .code c::ks,e,tm,h=>(eH e=true->∃e' tm' h',bA E (.code nt c tm [] h) (.code e' tm' [] h')/\resume E nt P ks e' tm' h')/\(eH e=false->resume E nt P ks e tm h)
 | .block id::ks,e,tm,h=>resume E nt P ks (leave id e) tm h
 | .loop c::ks,e,tm,h=>(eH e=true->∃e' tm' h',bA E (.code nt (.loop c) tm [] h) (.code e' tm' [] h')/\resume E nt P ks e' tm' h')/\(eH e=false->resume E nt P ks e tm h)
def EndP (B:Bs) (Q:Ex->LS->Prop) (e:Ex) (tm:Tr SV) (h:Hs):Prop:=∃F g φ s,Rel B F g φ s tm.get h/\Q e s
def Wk (E:Env) (nt:Nat) (B:Bs) (c:Code) (ks:List KI) (s:LS) (Q:Ex->LS->Prop):Prop:=
 ∀{F g φ} {tm:Tr SV} {h},Rel B F g φ s tm.get h->∃e' tm' h',bA E (.code nt c tm [] h) (.code e' tm' [] h')/\resume E nt (EndP B Q) ks e' tm' h'
def WkO (E:Env) (nt:Nat) (B:Bs) (e:Ex) (ks:List KI) (s:LS) (Q:Ex->LS->Prop):Prop:=
 ∀{F g φ} {tm:Tr SV} {h},Rel B F g φ s tm.get h->resume E nt (EndP B Q) ks e tm h
variable {Q:Ex->LS->Prop} {ks:List KI} {a b c:Code} {e:Ex}
theorem rO (h:eH e=true):e= .normal:=by cases e<;>first|rfl|(cases h;done)
theorem Wk.skip (h:WkO E nt B .normal ks s Q):Wk E nt B .skip ks s Q:=fun r=>⟨_,_,_,.skip,h r⟩
theorem Wk.exit {id:Nat} (h:WkO E nt B (.exit id) ks s Q):Wk E nt B (.exit id) ks s Q:=fun r=>⟨_,_,_,.exit,h r⟩
theorem Wk.ret (h:WkO E nt B .ret ks s Q):Wk E nt B .ret ks s Q:=fun r=>⟨_,_,_,.ret,h r⟩
theorem Wk.seq (h:Wk E nt B a (.code b::ks) s Q):Wk E nt B (.seq a b) ks s Q:=fun r=>by
 obtain ⟨e1,tm1,h1,go,re⟩:=h r;cases he:eH e1 with
 |true=>
  obtain ⟨e2,tm2,h2,go2,re2⟩:=re.1 he;rw[rO he] at go;exact ⟨e2,tm2,h2,go.seq go2,re2⟩
 |false=>exact ⟨e1,tm1,h1,.agb he go,re.2 he⟩
theorem Wk.RX {x:Operand} (hx:aK s.ts x= .bool true) (h:Wk E nt B a ks s Q):Wk E nt B (.cond x a b) ks s Q:=fun r=>by
 obtain ⟨v,v1,v2⟩:=r.val hx (by simp)
 cases v2;obtain ⟨e1,tm1,h1,go,re⟩:=h r;exact ⟨e1,tm1,h1,.RX v1 go,re⟩
theorem Wk.RY {x:Operand} (hx:aK s.ts x= .bool false) (h:Wk E nt B b ks s Q):Wk E nt B (.cond x a b) ks s Q:=fun r=>by
 obtain ⟨v,v1,v2⟩:=r.val hx (by simp)
 cases v2;obtain ⟨e1,tm1,h1,go,re⟩:=h r;exact ⟨e1,tm1,h1,.RY v1 go,re⟩
theorem Wk.block {id:Nat} (h:Wk E nt B c (.block id::ks) s Q):Wk E nt B (.block id c) ks s Q:=fun r=>by
 obtain ⟨e1,tm1,h1,go,re⟩:=h r;exact ⟨_,tm1,h1,.block go,re⟩
theorem Wk.loop (h:Wk E nt B c (.loop c::ks) s Q):Wk E nt B (.loop c) ks s Q:=fun r=>by
 obtain ⟨e1,tm1,h1,go,re⟩:=h r;cases he:eH e1 with
 |true=>
  obtain ⟨e2,tm2,h2,go2,re2⟩:=re.1 he;rw[rO he] at go;exact ⟨e2,tm2,h2,.loop go go2,re2⟩
 |false=>exact ⟨e1,tm1,h1,.aeO he go,re.2 he⟩
theorem Wk.region {id:Nat} {ops:Array Oper} (hl:hY E nt B ops.toList ops.toList s s1) (h:WkO E nt B .normal ks s1 Q):Wk E nt B (.region id ops false) ks s Q:=fun {F g φ tm hh} r=>by
 obtain ⟨F',g',φ',tm',h',r',go⟩:=hl F g φ tm hh r;exact ⟨_,_,_,.region go,h r'⟩
theorem WkO.code (h:Wk E nt B c ks s Q):WkO E nt B .normal (.code c::ks) s Q:=fun r=>⟨fun _=>h r,fun hc=>(by cases hc)⟩
theorem WkO.adI (he:eH e=false) (h:WkO E nt B e ks s Q):WkO E nt B e (.code c::ks) s Q:=fun r=>⟨fun hc=>(by rw[he] at hc;cases hc),fun _=>h r⟩
theorem WkO.block {id:Nat} (h:WkO E nt B (leave id e) ks s Q):WkO E nt B e (.block id::ks) s Q:=fun r=>h r
theorem WkO.loop (h:Wk E nt B (.loop c) ks s Q):WkO E nt B .normal (.loop c::ks) s Q:=fun r=>⟨fun _=>h r,fun hc=>(by cases hc)⟩
theorem WkO.acq (he:eH e=false) (h:WkO E nt B e ks s Q):WkO E nt B e (.loop c::ks) s Q:=fun r=>⟨fun hc=>(by rw[he] at hc;cases hc),fun _=>h r⟩
theorem WkO.nil (h:Q e s):WkO E nt B e [] s Q:=fun {F g φ tm hh} r=>⟨F,g,φ,s,r,h⟩
theorem Wk.JE (hg:dh B s s1) (h:Wk E nt B c ks s1 Q):Wk E nt B c ks s Q:=fun r=>by
 obtain ⟨_,_,_,r1⟩:=hg.go r;exact h r1
theorem WkO.JE (hg:dh B s s1) (h:WkO E nt B e ks s1 Q):WkO E nt B e ks s Q:=fun r=>by
 obtain ⟨_,_,_,r1⟩:=hg.go r;exact h r1
def resV (E:Env) (s:LS):ResultVar->Option AV
 | .tmp t=>lk t s.ts
 | .cell t ty=>aC (lk t s.ts) (E.ty.get ty) fun a i=>Gl i s.bs a
def JQ (E:Env) (s:LS):List ResultVar->Option (List AV)
 | []=>some []
 |r::rs=>aC (resV E s r) (JQ E s rs) fun v l=>some (v::l)
def qw:List AV->AV
 | [v]=>v
 |vs=>.tup vs
theorem aez (r:Rel B F g φ s tm h) {x:ResultVar} {y:AV} (hx:resV E s x=some y) (hu:y≠ .undef):∃v,AS E tm h.hp.get x=some v/\VA F g v y:=by
 cases x with
 |tmp t=>exact r.tm t y hx hu
 |cell t ty=>
  obtain ⟨a,i,h1,h2,h3⟩:=av hx;obtain ⟨v,v1,v2⟩:=r.tm t a h1 (fun e=>by subst e;cases h3)
  obtain ⟨u,u1,u2⟩:=O7 (E:=E) (t:=ty) h2 h3 r v2;refine ⟨u,?_,u2⟩;show ai (tm t) (iE E h.hp.get ty)=_;rw[v1];exact U4 u1
theorem Oy (r:Rel B F g φ s tm h):∀{l:List ResultVar} {ys:List AV},JQ E s l=some ys->fg ys=true->∃vs,gH E tm h.hp.get l=some vs/\VAs F g vs ys
 | [],_,hy,_=>by cases hy;exact ⟨[],rfl,.nil⟩
 |x::l,ys,hy,hu=>by
  obtain ⟨a,m,h1,h2,h3⟩:=av hy;cases h3;obtain ⟨u1,u2⟩:=vT hu;obtain ⟨v,v1,v2⟩:=aez r h1 u1;obtain ⟨vs,w1,w2⟩:=Oy r h2 u2;exact ⟨v::vs,by show aC _ _ _=_;rw[v1,w1];rfl,.cons v2 w2⟩
def pJ:Nat->List AV->List (Nat×AV)
 |_,[]=> []
 |i,x::l=>(i,x)::pJ (i+1) l
theorem L0:∀{xs:List AV} {aa:List SV},VAs F g aa xs->∀{i t:Nat} {x:AV},lk t (pJ i xs)=some x->∃v,i<=t/\t<i+aa.length/\aa[t-i]? =some v/\VA F g v x
 | [],_,_,i,t,x,h=>by cases h
 |y::l,_,.cons (vs:=vs) hv q,i,j,x,h=>by
  rw[show pJ i (y::l)=(i,y)::pJ (i+1) l from rfl,bh] at h;split at h
  ·rename_i e;cases h;subst e;exact ⟨_,Nat.le_refl _,by simp,by simp,hv⟩
  ·obtain ⟨v,a1,a2,a3,a4⟩:=L0 q h;refine ⟨v,by omega,by rw[List.length_cons];omega,?_,a4⟩
   rw[show j-i=(j-(i+1))+1 by omega,List.getElem?_cons_succ]
   exact a3
def BOK (pks:List Nat) (B:Bs):Prop:=∀k,ep k pks=false->B.pk k=false
def qF (bs:List (Nat×Bx)):List Nat:= @List.rec (Nat×Bx) (fun _=>List Nat) [] (fun p _ ih=>p.1::ih) bs
theorem Xn {bs:List (Nat×Bx)} {k:Nat} (h:ep k (qF bs)=false):lk k bs=none:=by
 induction bs with
 |nil=>rfl
 |cons p l ih=>
  have h:sel (Nat.beq k p.1) true (ep k (qF l))=false:=h;rw[aA] at h;rw[show p::l=(p.1,p.2)::l from rfl,bh];split at h
  ·cases h
  ·rename_i e;rw[if_neg (fun c=>e ((beq_iff _ _).2 c))]
   exact ih h
def aaF (E:Env) (fn:Func) (y:AV) (bs':List (Nat×Bx)) (e:Ex) (s:LS):Prop:=qH e=true/\(∃ys,JQ E s fn.results.toList=some ys/\fg ys=true/\y=qw ys)/\∀k b,lk k bs'=some b->lk k s.bs=some b
theorem ago {vs:List SV} {ys:List AV} (q:VAs F g vs ys):VA F g (oneOf vs) (qw ys):=by
 cases q with
 |nil=>exact .tup .nil
 |cons h t=>
  cases t with
  |nil=>exact h
  |cons h2 t2=>exact .tup (.cons h (.cons h2 t2))
theorem afj {f:Nat} {fn:Func} {c:Code} {bs bs':List (Nat×Bx)} {xs:List AV} {y:AV} (hk:xZ E f fn c) (hn:Nat.ble xs.length fn.ntmps=true)
  (hw:∀B,BOK (qF bs) B->Wk E fn.ntmps B c [] ⟨pJ 0 xs,bs⟩ (aaF E fn y bs')):bl E f bs xs y bs':=.mk fun {F g φ h aa} ent has=>by
 have hB:BOK (qF bs) (Lz F g φ bs h):=fun k hk=>by
  show (lk k bs).isSome=false;rw[Xn hk];rfl
 have r:Rel (Lz F g φ bs h) F g φ ⟨pJ 0 xs,bs⟩ (setArgs aa 0 .nil).get ⟨h.hp,h.nx,[]⟩:={ent with tm:=fun t x hx hne=>(L0 has hx).elim fun v ha=>⟨v,by rw[sC,if_pos ⟨ha.1,ha.2.1⟩];exact ha.2.2.1,ha.2.2.2⟩}
 obtain ⟨e,tm1,h1,go,F',g',φ',s',r1,he,⟨ys,y1,y2,y3⟩,hbs⟩:=hw _ hB r;obtain ⟨vs,w1,w2⟩:=Oy r1 y1 y2;refine ⟨F',g',φ',h1,oneOf vs,?_,by rw[y3];exact ago w2,?_⟩
 ·have:=bA.call (E:=E) (h:=h) hk (fi:= []) (aa:=aa) (ca:= []) (vs:=vs) (by rw[List.nil_append,List.append_nil,has.length];exact hn) he (by rw[List.nil_append,List.append_nil];exact go) w1
  exact this
 ·have r2:=r1.less (s':=⟨[],bs'⟩) ⟨fun t y hy=>(by cases hy),fun k b hb=>⟨b,hbs k b hb,WB.refl b⟩⟩
  exact {r2 with tm:=fun t x hx _=>(by cases hx)}
end
section
variable {F F':Hf} {g g':Gb} {B:Bs} {φ:Nat->List Nat} {s s' s1:LS} {tm:Tf} {h:Hs} {hp:Hf} {E:Env} {nt:Nat}
def cA (W M:Nat) (o:Oper):Nat:=Nat.mod (fD W M (dB o)) (Nat.pow 2 W)
def mH (W M i m:Nat):Nat:=Nat.lor M (Nat.shiftLeft m (Nat.mul i W))
theorem bA.aff {W base i M:Nat} {all:List Oper} {prev:List Rc} {tm:Tr SV}:bA E (.draw nt W all base i M prev [] tm h) (.st tm h):=.step ⟨0,fun _ _=>rfl⟩
theorem wL {W base i M:Nat} {all l:List Oper} {o:Oper} {prev:List Rc} {tm:Tr SV} {rec:Job->Out} (hd:(cm nt o.dst&&gp i (dB o))=true) {w:Bool} (hw:bJ all o tm.get=some w):step E rec (.draw nt W all base i M prev (o::l) tm h)=sel w (doD E rec nt W all base i M (cA W M o) prev l tm h o (dG o.op)) (jQ rec nt W all base i M (cA W M o) prev l tm o.dst ⟨i,false,[],[],Nat.add base i,Nat.add (Nat.add base i) 1⟩ (.tup []) h):=by
 show sel (cm nt o.dst && gp i (dB o)) (force (Nat.mod (fD W M (dB o)) (Nat.pow 2 W)) fun m=>F6 E rec nt W all base i M m prev l tm h o (bJ all o tm.get)) (.fail "slot")=_
 rw[hd,force_eq,hw];rfl
theorem zJ {rec:Job->Out} {W base i M m:Nat} {all l:List Oper} {prev:List Rc} {tm:Tr SV} {d:Option Nat} {rc:Rc} {v:SV} (hi:cZ m rc prev=true):jQ rec nt W all base i M m prev l tm d rc v h=rec (.draw nt W all base (i+1) (mH W M i m) (rc::prev) l (bc tm d v) h):=by
 show sel (cZ m rc prev) (force (mH W M i m) fun M'=>rec (.draw nt W all base (Nat.add i 1) M' (rc::prev) l (bc tm d v) h)) (.fail "order")=_
 rw[hi,force_eq]
variable {W base i M:Nat} {all l:List Oper} {o:Oper} {prev:List Rc} {tmr:Tr SV} {out:Out}
theorem bA.aak (hd:(cm nt o.dst&&gp i (dB o))=true) (hw:bJ all o tmr.get=some false) (hi:cZ (cA W M o) ⟨i,false,[],[],base+i,base+i+1⟩ prev=true)
  (ha:bA E (.draw nt W all base (i+1) (mH W M i (cA W M o)) (⟨i,false,[],[],base+i,base+i+1⟩::prev) l (bc tmr o.dst (.tup [])) h) out):bA E (.draw nt W all base i M prev (o::l) tmr h) out:=by
 obtain ⟨n1,e1⟩:=ha;refine .step ⟨n1,fun n hn=> ?_⟩
 rw[wL hd hw];show jQ (run E n) nt W all base i M (cA W M o) prev l tmr o.dst ⟨i,false,[],[],base+i,base+i+1⟩ (.tup []) h=_;rw[zJ hi];exact e1 n hn
theorem bA.afd {v:SV} {us:List Up} (hd:(cm nt o.dst&&gp i (dB o))=true) (hw:bJ all o tmr.get=some true) (hc:dG o.op=none) (hv:opA E o.op tmr.get h.hp.get (base+i)=some (v,us)) (hi:cZ (cA W M o) ⟨i,false,eP o.op tmr.get,gZ (base+i) us,base+i,base+i+1⟩ prev=true)
  (ha:bA E (.draw nt W all base (i+1) (mH W M i (cA W M o)) (⟨i,false,eP o.op tmr.get,gZ (base+i) us,base+i,base+i+1⟩::prev) l (bc tmr o.dst v) (h.ups us)) out):bA E (.draw nt W all base i M prev (o::l) tmr h) out:=by
 obtain ⟨n1,e1⟩:=ha;refine .step ⟨n1,fun n hn=> ?_⟩
 rw[wL hd hw,hc];show PF (run E n) nt W all base i M (cA W M o) prev l tmr h o (opA E o.op tmr.get h.hp.get (base+i))=_;rw[hv];show jQ (run E n) nt W all base i M (cA W M o) prev l tmr o.dst ⟨i,false,eP o.op tmr.get,gZ (base+i) us,base+i,base+i+1⟩ v (h.ups us)=_;rw[zJ hi];exact e1 n hn
theorem bA.aan {c:Call} {f:SV} {aa:List SV} {v:SV} {h2:Hs} (hd:(cm nt o.dst&&gp i (dB o))=true) (hw:bJ all o tmr.get=some true) (hc:dG o.op=some c) (hf:fq tmr.get c.callee=some f) (has:bE tmr.get c.args.toList=some aa)
  (hv:bA E (.call f aa ⟨fR (cA W M o) prev h.hp,h.nx,[]⟩) (.bX [⟨false,v,h2⟩])) (hi:cZ (cA W M o) ⟨i,true,[],below h.nx h2.lg [],h.nx,h2.nx⟩ prev=true)
  (ha:bA E (.draw nt W all base (i+1) (mH W M i (cA W M o)) (⟨i,true,[],below h.nx h2.lg [],h.nx,h2.nx⟩::prev) l (bc tmr o.dst v) ⟨eD (cA W M o) h.hp prev h2.hp,h2.nx,below h.nx h2.lg h.lg⟩) out):bA E (.draw nt W all base i M prev (o::l) tmr h) out:=by
 obtain ⟨n1,e1⟩:=ha;obtain ⟨n2,e2⟩:=hv;refine .step ⟨n1+n2,fun n hn=> ?_⟩
 rw[wL hd hw,hc];show Rn (run E n) ⟨fR (cA W M o) prev h.hp,h.nx,[]⟩ (fq tmr.get c.callee) (bE tmr.get c.args.toList) (fun v h2=>jQ (run E n) nt W all base i M (cA W M o) prev l tmr o.dst ⟨i,true,[],below h.nx h2.lg [],h.nx,h2.nx⟩ v ⟨eD (cA W M o) h.hp prev h2.hp,h2.nx,below h.nx h2.lg h.lg⟩) _=_
 rw[hf,has];show DO (run E n (.call f aa ⟨fR (cA W M o) prev h.hp,h.nx,[]⟩)) (fun v h2=>jQ (run E n) nt W all base i M (cA W M o) prev l tmr o.dst ⟨i,true,[],below h.nx h2.lg [],h.nx,h2.nx⟩ v ⟨eD (cA W M o) h.hp prev h2.hp,h2.nx,below h.nx h2.lg h.lg⟩) (fun v h2=>sel (Gi l && (nn (cA W M o) i && nJ (cA W M o) prev)) (.code (.pan v) tmr [] ⟨h2.hp,h2.nx,below h.nx h2.lg h.lg⟩) (.fail "panic in a drawn region"))=_
 rw[e2 n (by omega)]
 show jQ (run E n) nt W all base i M (cA W M o) prev l tmr o.dst ⟨i,true,[],below h.nx h2.lg [],h.nx,h2.nx⟩ v ⟨eD (cA W M o) h.hp prev h2.hp,h2.nx,below h.nx h2.lg h.lg⟩=_;rw[zJ hi];exact e1 n (by omega)
theorem tV:∀(us:List Up) {x:Nat},(∀u∈us,u.1≠x)->∀h:Hs,(h.ups us).hp.get x=h.hp.get x
 | [],_,_,h=>rfl
 |u::us,x,hu,h=>by
  show ((h.up u).ups us).hp.get x=_;rw[tV us (fun v hv=>hu v (List.mem_cons_of_mem _ hv)) (h.up u)]
  show (h.hp.set u.1 u.2).get x=_;rw[Tr.da,if_neg (Ne.symm (hu u List.mem_cons_self))]
def LS.l8 (s:LS) (K:Nat):LS:=⟨(s.df K).ts,bG K (s.df K).bs⟩
def LS.pt (s:LS) (W:WK):LS:=match W with|none=>s|some q=>s.l8 q.1
theorem aeY {K t:Nat} {y:AV} (h:lk t (s.l8 K).ts=some y):∃x,lk t s.ts=some x/\y=gN K x:=by
 rw[show (s.l8 K).ts=s.ts.map fun p=>(p.1,gN K p.2) from rfl,iu] at h
 obtain ⟨x,hx,rfl⟩:=Option.map_eq_some_iff.1 h;exact ⟨x,hx,rfl⟩
theorem Ec {K k:Nat} {b:Bx} (h:lk k (s.l8 K).bs=some b):k≠K/\∃b0,lk k s.bs=some b0/\b=b0.df K:=by
 rw[show (s.l8 K).bs=bG K (s.bs.map fun p=>(p.1,p.2.df K)) from rfl,dz] at h
 split at h
 ·cases h
 ·rename_i hne;rw[iu] at h;obtain ⟨b0,h0,rfl⟩:=Option.map_eq_some_iff.1 h;exact ⟨hne,b0,h0,rfl⟩
theorem KY (r:Rel B F g φ s tm h) (K:Nat):Rel B F g φ (s.l8 K) tm h:=by
 have r1:=zY r K;refine r1.less ⟨fun t y hy=>.inr ⟨y,hy,WV.refl y⟩,fun k b hb=> ?_⟩
 rw[show (s.l8 K).bs=bG K (s.df K).bs from rfl,dz] at hb;split at hb
 ·cases hb
 ·exact ⟨b,hb,WB.refl b⟩
theorem Ft (s:LS) (K:Nat):(s.l8 K).free K:=by
 obtain ⟨h1,h2⟩:=Fz s K;refine ⟨h1,fun k b hne hb=>h2 k b hne ?_⟩
 rw[show (s.l8 K).bs=bG K (s.df K).bs from rfl,dz,if_neg hne] at hb;exact hb
theorem Rel.Sh (r:Rel B F g φ s tm h) {F2:Hf} {g2:Gb} {φ2:Nat->List Nat} {s2:LS} {h':Hs} {tm2:Tf} (r2:Rel B F2 g2 φ2 s2 tm2 h') (hF:∀id o,F id=some o->h'.hp.get id=h.hp.get id) (hb:∀k b,lk k s.bs=some b->∀i∈φ k,h'.hp.get i=h.hp.get i) (hφ:∀k b,lk k s.bs=some b->φ2 k=φ k)
  (hgt:∀t x,lk t s.ts=some x->gq g g2 (bR x)) (hgb:∀k b,lk k s.bs=some b->gq g g2 [k]/\gq g g2 b.keys):Rel B F g2 φ2 s tm h':=by
 refine ⟨fun t x hx hn=> ?_,fun k b hk=> ?_,fun k k' b b' hk hk' hne i hi=> ?_,fun k b hk i hi=> ?_,fun i o ho=>(hF i o ho).trans (r.sub i o ho),r2.bd,r2.nx,r2.old,r.f0,r.fn,fun k b hk i hi=> ?_,r2.lg,r2.pin⟩
 ·obtain ⟨v,v1,v2⟩:=r.tm t x hx hn;exact ⟨v,v1,v2.gb (hgt t x hx)⟩
 ·rw[hφ k b hk];exact ((r.bx k b hk).gf (Hle.refl F) fun i hi=>hb k b hk i hi).gb (hgb k b hk).1 (hgb k b hk).2
 ·rw[hφ k b hk] at hi;rw[hφ k' b' hk'];exact r.dj k k' b b' hk hk' hne i hi
 ·rw[hφ k b hk] at hi;exact r.nf k b hk i hi
 ·rw[hφ k b hk] at hi;exact r.g7 k b hk i hi
end
section
variable {F F':Hf} {g g':Gb} {B:Bs} {φ:Nat->List Nat} {s s' s1:LS} {tm:Tf} {h:Hs} {hp:Hf} {E:Env} {nt:Nat}
theorem tk {lo hi:Nat}:∀{l:List Nat},(∀x∈l,x<lo\/hi<=x)->jO lo hi l=true
 | [],_=>rfl
 |x::l,h=>by
  have ih:=tk (lo:=lo) (hi:=hi) (l:=l) fun y hy=>h y (List.mem_cons_of_mem _ hy)
  show sel (Nat.ble (Nat.succ x) lo) (jO lo hi l) (sel (Nat.ble hi x) (jO lo hi l) false)=true;rw[ih,aA,aA];rcases h x List.mem_cons_self with c|c
  ·rw[if_pos (Nat.ble_eq_true_of_le c)]
  ·rw[if_pos (Nat.ble_eq_true_of_le c)];split<;>rfl
theorem uP:∀{l m:List Nat},(∀x∈l,x∉m)->jg l m=true
 | [],_,_=>rfl
 |x::l,m,h=>by
  show sel (ep x m) false (jg l m)=true;rw[uP fun y hy=>h y (List.mem_cons_of_mem _ hy),aA,if_neg]
  exact fun hc=>h x List.mem_cons_self ((l3 _ _).1 hc)
structure PI where
 i:Nat
 n:Nat
 rk:List Nat
 wk:List Nat
 wn:Bool
structure DR (B:Bs) (base W cur nc:Nat) (vs:List LS) (laid:bw) (pp:List (Rc×PI)) (g:Gb) (φ:Nat->List Nat) (Fs:Nat->Hf) (lim:Nat->Nat) (tm:Tf) (h:Hs):Prop where
 r:∀(j:Nat) (s:LS),vs[j]? =some s->Rel B (Fs j) g φ s tm h
 up:∀(j j':Nat) (s s':LS),j<=j'->vs[j]? =some s->vs[j']? =some s'->Hle (Fs j) (Fs j')/\∀k b,lk k s.bs=some b->∃b',lk k s'.bs=some b'
 fb:∀(j:Nat) (s:LS),vs[j]? =some s->∀id o,Fs j id=some o->id<base\/(base+W<=id/\id<lim j)
 bb:∀(j:Nat) (s:LS),vs[j]? =some s->∀k b,lk k s.bs=some b->∀i∈φ k,i<base\/(base+W<=i/\i<lim j)\/∃q,(k,q)∈laid/\q<cur/\i=base+q
 lm:∀(j:Nat) (s:LS),vs[j]? =some s->base+W<=lim j/\lim j<=h.nx
 top:vs.length=nc+1
 hx:base+W<=h.nx
 em:∀q,cur<=q->q<W->h.hp.get (base+q)=none
 bn:B.nx<=base
 pi:∀q∈pp,q.1.i=q.2.i/\q.2.i<cur/\q.2.n<=nc/\(q.2.n=0->q.1.call=false/\q.1.lo=base+q.2.i/\q.1.hi=base+q.2.i+1)/\(q.2.n≠0->q.1.call=true/\base+W<=q.1.lo/\q.1.hi<=h.nx/\∀(j:Nat) (s:LS),vs[j]? =some s->j<q.2.n->lim j<=q.1.lo)
 po:∀q∈pp,∀id,id∈q.1.rd\/id∈q.1.wr->id<base\/(base+W<=id/\id<h.nx)\/∃j,j<=q.2.i/\id=base+j
 pr:∀q∈pp,∀(j:Nat) (s:LS),vs[j]? =some s->∀k b,lk k s.bs=some b->∀i∈φ k,(i∈q.1.rd->k∈q.2.rk)/\(i∈q.1.wr->k∈q.2.wk)
 pf:∀q∈pp,∀i∈q.1.wr,∀(j:Nat) (s:LS),vs[j]? =some s->Fs j i=none
 pw:∀q∈pp,q.2.wn=true->q.1.wr= []
def yD (l m:Nat) (rk wk:List Nat) (call wn:Bool) (p:PI):Prop:=dM m p.i=true\/((p.n≠0->l<p.n/\call=false/\wn=true)/\(call=true->p.wn=true)/\(∀k∈wk,k∉p.rk/\k∉p.wk)/\∀k∈rk,k∉p.wk)
variable {base W cur nc:Nat} {vs:List LS} {laid:bw} {pp:List (Rc×PI)} {Fs:Nat->Hf} {lim:Nat->Nat}
theorem DR.indep (D:DR B base W cur nc vs laid pp g φ Fs lim tm h) {l m:Nat} {sl:LS} {rc:Rc} {rk wk:List Nat} {wn:Bool} (fS:cur<W) (hl:vs[l]? =some sl) (hrd:∀id∈rc.rd,(∃o,Fs l id=some o)\/∃k∈rk,∃b,lk k sl.bs=some b/\id∈φ k) (hwr:∀id∈rc.wr,∃k∈wk,∃b,lk k sl.bs=some b/\id∈φ k)
  (eX:∀id,rc.lo<=id->id<rc.hi->id=base+cur\/h.nx<=id) (nY:∀k j,(k∈rk\/k∈wk)->(k,j)∈laid->dM m j=true) (hwn:wn=true->rc.wr= []) (sM:∀q∈pp,yD l m rk wk rc.call wn q.2):cZ m rc (pp.map (·.1))=true:=by
 have key:∀(l:List (Rc×PI)),(∀q∈l,dM m q.1.i=true\/tB q.1 rc=true)->cZ m rc (l.map (·.1))=true:=fun l=>by
  induction l with
  |nil=>exact fun _=>rfl
  |cons q l ih=>
   intro hq;have ih:=ih fun p hp=>hq p (List.mem_cons_of_mem _ hp)
   show sel (dM m q.1.i) (cZ m rc (l.map (·.1))) (sel (tB q.1 rc) (cZ m rc (l.map (·.1))) false)=true
   rw[ih,aA,aA];rcases hq q List.mem_cons_self with c|c
   ·rw[if_pos c]
   ·rw[if_pos c];split<;>rfl
 refine key pp fun q hq=> ?_
 obtain ⟨p1,p2,p3,p4,p5⟩:=D.pi q hq;rcases sM q hq with c|⟨c1,c2,c3,c4⟩
 ·exact .inl (by rw[p1];exact c)
 by_cases hm:dM m q.2.i=true
 ·exact .inl (by rw[p1];exact hm)
 refine .inr ?_;have hoff:∀id,((∃o,Fs l id=some o)\/∃k,(k∈rk\/k∈wk)/\∃b,lk k sl.bs=some b/\id∈φ k)->id<q.1.lo\/q.1.hi<=id:=fun id hid=>by
  have oR:=D.lm l sl hl;by_cases hn:q.2.n=0
  ·obtain ⟨_,e1,e2⟩:=p4 hn;rw[e1,e2];rcases hid with ⟨o,ho⟩|⟨k,hk,b,hb,hi⟩
   ·rcases D.fb l sl hl id o ho with c|c<;>omega
   ·rcases D.bb l sl hl k b hb id hi with c|c|⟨j,j1,j2,rfl⟩
    ·omega
    ·omega
    ·have:j≠q.2.i:=fun e=>hm (by rw[<-e];exact nY k j hk j1)
     omega
  ·obtain ⟨_,e1,e2,e3⟩:=p5 hn;have e3:=e3 l sl hl (c1 hn).1;rcases hid with ⟨o,ho⟩|⟨k,hk,b,hb,hi⟩
   ·rcases D.fb l sl hl id o ho with c|c<;>omega
   ·rcases D.bb l sl hl k b hb id hi with c|c|⟨j,j1,j2,rfl⟩<;>omega
 have hold:∀id,id∈q.1.rd\/id∈q.1.wr->id<rc.lo\/rc.hi<=id:=fun id hid=>by
  by_cases h1:rc.lo<=id
  ·by_cases h2:id<rc.hi
   ·have:=D.hx;rcases eX id h1 h2 with e|e<;>rcases D.po q hq id hid with c|c|⟨j,j1,rfl⟩<;>omega
   ·exact .inr (by omega)
  ·exact .inl (by omega)
 have i1:jO q.1.lo q.1.hi rc.rd=true:=tk fun id hid=>hoff id ((hrd id hid).elim .inl fun ⟨k,hk,x⟩=>.inr ⟨k,.inl hk,x⟩)
 have i2:jO q.1.lo q.1.hi rc.wr=true:=tk fun id hid=>hoff id (by obtain ⟨k,hk,x⟩:=hwr id hid;exact .inr ⟨k,.inr hk,x⟩)
 have i3:jO rc.lo rc.hi q.1.rd=true:=tk fun id hid=>hold id (.inl hid)
 have i4:jO rc.lo rc.hi q.1.wr=true:=tk fun id hid=>hold id (.inr hid)
 have i5:jg q.1.rd rc.wr=true:=uP fun id hid hw=>by
  obtain ⟨k,hk,b,hb,hi⟩:=hwr id hw;exact (c3 k hk).1 ((D.pr q hq l sl hl k b hb id hi).1 hid)
 have i6:jg rc.rd q.1.wr=true:=uP fun id hid hw=>by
  rcases hrd id hid with ⟨o,ho⟩|⟨k,hk,b,hb,hi⟩
  ·rw[D.pf q hq id hw l sl hl] at ho;cases ho
  ·exact c4 k hk ((D.pr q hq l sl hl k b hb id hi).2 hw)
 have i7:jg q.1.wr rc.wr=true:=uP fun id hid hw=>by
  obtain ⟨k,hk,b,hb,hi⟩:=hwr id hw;exact (c3 k hk).2 ((D.pr q hq l sl hl k b hb id hi).2 hid)
 have i8:sel q.1.call (sel rc.call false (sH rc.wr)) (sel rc.call (sH q.1.wr) true)=true:=by
  by_cases hn:q.2.n=0
  ·rw[(p4 hn).1];show sel rc.call (sH q.1.wr) true=true;cases hcl:rc.call with
   |false=>rfl
   |true=>show sH q.1.wr=true;rw[D.pw q hq (c2 hcl)];rfl
  ·rw[(p5 hn).1];obtain ⟨_,d1,d2⟩:=c1 hn;rw[d1,hwn d2];rfl
 show (jO q.1.lo q.1.hi rc.rd&&(jO q.1.lo q.1.hi rc.wr&&(jO rc.lo rc.hi q.1.rd&&(jO rc.lo rc.hi q.1.wr&&(jg q.1.rd rc.wr&&(jg rc.rd q.1.wr&&(jg q.1.wr rc.wr&&sel q.1.call (sel rc.call false (sH rc.wr)) (sel rc.call (sH q.1.wr) true))))))))=true;rw[i1,i2,i3,i4,i5,i6,i7,i8];rfl
def Gf:Op->List Operand
 | .load _ x=> [x]
 | .store _ x y=> [x,y]
 | .lookup _ x k _=> [x,k]
 | .mapUpdate _ m k x=> [m,k,x]
 | .insert _ m k x=> [m,k,x]
 | .next it _=> [it]
 | .range _ x=> [x]
 | .call c=>c.args.toList
 |_=> []
def QC (op:Op):Bool:=match op with| .call c=>kD c|_=>false
theorem Qh (op:Op) (tm:Tf):eP op tm=sel (QC op) (ur tm (Gf op)) (iF tm (Gf op)):=by cases op<;>rfl
def adm (bs:List (Nat×Bx)):AV->Option (List Nat)
 | .undef=>none
 | .loc K _=>(match lk K bs with|some (.flat _ _)=>some [K]|_=>none)
 | .el K _ _ _=>(match lk K bs with|some (.rows _ _ _ _)=>some [K]|some (.hole _ _ _ _ _)=>some [K]|some (.own _ _ _ _ _)=>some [K]|_=>none)
 | .ms K _ _ _=>(match lk K bs with|some (.rows _ _ _ _)=>some [K]|_=>none)
 | .mp K=>(match lk K bs with|some (.map _)=>some [K]|_=>none)
 | .it K=>(match lk K bs with|some (.iter _ _)=>some [K]|_=>none)
 |_=>some []
def KD (ts:List (Nat×AV)) (bs:List (Nat×Bx)):List Operand->Option (List Nat)
 | []=>some []
 |x::l=>aC (adm bs (aK ts x)) (KD ts bs l) fun a b=>some (a++b)
theorem Zg (r:Rel B F g φ s tm h) {y:AV} {v:SV} {ks:List Nat} (hv:VA F g v y) (hk:adm s.bs y=some ks):∀id∈eI (some v),(∃o,F id=some o)\/∃k∈ks,∃b,lk k s.bs=some b/\id∈φ k:=by
 intro id hid;cases hv with
 |slice hF=>exact .inl (by rw[List.mem_singleton.1 hid];exact oF hF)
 |sln hF=>exact .inl (by rw[List.mem_singleton.1 hid];exact oF hF)
 |slf hF=>exact .inl (by rw[List.mem_singleton.1 hid];exact oF hF)
 |slx hF=>exact .inl (by rw[List.mem_singleton.1 hid];exact oF hF)
 |imm hF=>exact .inl (by rw[List.mem_singleton.1 hid];exact oF hF)
 |loc K off=>
  have hk:(match lk K s.bs with|some (.flat _ _)=>some [K]|_=>none)=some ks:=hk
  split at hk
  ·rename_i hb;cases hk;refine .inr ⟨K,by simp,_,hb,?_⟩
   have q:=r.bx K _ hb;generalize φ K=fp at q ⊢;cases q with|flat=>rw[List.mem_singleton.1 hid];simp
  ·cases hk
 | @el _ K s' j f hb0=>
  have hk:(match lk K s.bs with|some (.rows _ _ _ _)=>some [K]|some (.hole _ _ _ _ _)=>some [K]|some (.own _ _ _ _ _)=>some [K]|_=>none)=some ks:=hk
  split at hk
  ·rename_i hb;cases hk;refine .inr ⟨K,by simp,_,hb,?_⟩
   have q:=r.bx K _ hb;generalize φ K=fp at q ⊢;cases q with
   |cI hb1=>rw[hb0] at hb1;cases hb1
   |rows=>rw[List.mem_singleton.1 hid];simp
  ·rename_i hb;cases hk;refine .inr ⟨K,by simp,_,hb,?_⟩
   have q:=r.bx K _ hb;generalize φ K=fp at q ⊢;cases q with
   |hole=>rw[List.mem_singleton.1 hid];simp
  ·rename_i hb;cases hk;refine .inr ⟨K,by simp,_,hb,?_⟩
   have q:=r.bx K _ hb;generalize φ K=fp at q ⊢;cases q with
   |jN hb1=>rw[hb0] at hb1;cases hb1
   |own=>rw[List.mem_singleton.1 hid];simp
  ·cases hk
 | @ms _ K s' lo n hb0=>
  have hk:(match lk K s.bs with|some (.rows _ _ _ _)=>some [K]|_=>none)=some ks:=hk
  split at hk
  ·rename_i hb;cases hk;refine .inr ⟨K,by simp,_,hb,?_⟩
   have q:=r.bx K _ hb;generalize φ K=fp at q ⊢;cases q with
   |cI hb1=>rw[hb0] at hb1;cases hb1
   |rows=>rw[List.mem_singleton.1 hid];simp
  ·cases hk
 |mp K=>
  have hk:(match lk K s.bs with|some (.map _)=>some [K]|_=>none)=some ks:=hk
  split at hk
  ·rename_i hb;cases hk;refine .inr ⟨K,by simp,_,hb,?_⟩
   have q:=r.bx K _ hb;generalize φ K=fp at q ⊢;cases q with|map=>rw[List.mem_singleton.1 hid];simp
  ·cases hk
 |it K=>
  have hk:(match lk K s.bs with|some (.iter _ _)=>some [K]|_=>none)=some ks:=hk
  split at hk
  ·rename_i hb;cases hk;refine .inr ⟨K,by simp,_,hb,?_⟩
   have q:=r.bx K _ hb;generalize φ K=fp at q ⊢;cases q with|iter=>rw[List.mem_singleton.1 hid];simp
  ·cases hk
 |undef=>cases hk
 |_=>cases hid
theorem Fj (r:Rel B F g φ s tm h):∀{l:List Operand} {ks:List Nat},KD s.ts s.bs l=some ks->∀id∈iF tm l,(∃o,F id=some o)\/∃k∈ks,∃b,lk k s.bs=some b/\id∈φ k
 | [],_,_,id,hid=>by cases hid
 |x::l,ks,hk,id,hid=>by
  obtain ⟨a,b,h1,h2,h3⟩:=av hk;cases h3;have hid:id∈eI (aI tm x)++iF tm l:=hid;rcases List.mem_append.1 hid with hid|hid
  ·have hne:aK s.ts x≠ .undef:=fun e=>by rw[e] at h1;cases h1
   obtain ⟨v,v1,v2⟩:=r.val rfl hne;rw[v1] at hid;rcases Zg r v2 h1 id hid with c|⟨k,hk,c⟩
   ·exact .inl c
   ·exact .inr ⟨k,List.mem_append_left _ hk,c⟩
  ·rcases Fj r h2 id hid with c|⟨k,hk,c⟩
   ·exact .inl c
   ·exact .inr ⟨k,List.mem_append_right _ hk,c⟩
def Xp (bs:List (Nat×Bx)):AV->Option (List Nat)
 | .undef=>none
 | .mp K=>(match lk K bs with|some (.map _)=>some [K]|_=>none)
 |_=>some []
def D7 (ts:List (Nat×AV)) (bs:List (Nat×Bx)):List Operand->Option (List Nat)
 | []=>some []
 |x::l=>aC (Xp bs (aK ts x)) (D7 ts bs l) fun a b=>some (a++b)
def tA (ts:List (Nat×AV)) (bs:List (Nat×Bx)) (op:Op):Option (List Nat):=sel (QC op) (D7 ts bs (Gf op)) (KD ts bs (Gf op))
theorem Xo (r:Rel B F g φ s tm h) {y:AV} {v:SV} {ks:List Nat} (hv:VA F g v y) (hk:Xp s.bs y=some ks):∀id∈idM (some v),∃k∈ks,∃b,lk k s.bs=some b/\id∈φ k:=by
 intro id hid;cases hv with
 |mp K=>
  have hk:(match lk K s.bs with|some (.map _)=>some [K]|_=>none)=some ks:=hk
  split at hk
  ·rename_i hb;cases hk;refine ⟨K,by simp,_,hb,?_⟩
   have q:=r.bx K _ hb;generalize φ K=fp at q ⊢;cases q with|map=>rw[List.mem_singleton.1 hid];simp
  ·cases hk
 |undef=>cases hk
 |_=>cases hid
theorem Bp (r:Rel B F g φ s tm h):∀{l:List Operand} {ks:List Nat},D7 s.ts s.bs l=some ks->∀id∈ur tm l,∃k∈ks,∃b,lk k s.bs=some b/\id∈φ k
 | [],_,_,id,hid=>by cases hid
 |x::l,ks,hk,id,hid=>by
  obtain ⟨a,b,h1,h2,h3⟩:=av hk;cases h3;have hne:aK s.ts x≠ .undef:=fun e=>by rw[e] at h1;cases h1
  obtain ⟨v,v1,v2⟩:=r.val rfl hne;rcases List.mem_append.1 (show id∈idM (aI tm x)++ur tm l from hid) with hid|hid
  ·rw[v1] at hid;obtain ⟨k,c1,c2⟩:=Xo r v2 h1 id hid;exact ⟨k,List.mem_append_left _ c1,c2⟩
  ·obtain ⟨k,c1,c2⟩:=Bp r h2 id hid;exact ⟨k,List.mem_append_right _ c1,c2⟩
theorem QJ (r:Rel B F g φ s tm h) {op:Op} {ks:List Nat} (hk:tA s.ts s.bs op=some ks):∀id∈eP op tm,(∃o,F id=some o)\/∃k∈ks,∃b,lk k s.bs=some b/\id∈φ k:=by
 rw[Qh];unfold tA at hk;cases hl:QC op with
 |true=>
  rw[hl] at hk;exact fun id hid=>.inr (Bp r hk id hid)
 |false=>
  rw[hl] at hk;exact fun id hid=>Fj r hk id hid
end
section
variable {F F':Hf} {g g':Gb} {B:Bs} {φ:Nat->List Nat} {s s' s1:LS} {tm:Tr SV} {h:Hs} {hp:Hf} {E:Env} {nt:Nat}
variable {base W cur nc:Nat} {vs vs':List LS} {laid:bw} {pp:List (Rc×PI)} {Fs:Nat->Hf} {lim:Nat->Nat}
theorem tT {new:Nat}:∀{us:List Up} {id:Nat},id∈gZ new us->id≠new/\∃u∈us,u.1=id
 | [],id,h=>by cases h
 |u::us,id,h=>by
  have h:id∈sel (Nat.beq u.1 new) (gZ new us) (u.1::gZ new us):=h;rw[aA] at h;split at h
  ·obtain ⟨a,v,b,c⟩:=tT h;exact ⟨a,v,List.mem_cons_of_mem _ b,c⟩
  ·rename_i hne;rcases List.mem_cons.1 h with rfl|h
   ·exact ⟨fun e=>hne ((beq_iff _ _).2 e),u,List.mem_cons_self,rfl⟩
   ·obtain ⟨a,v,b,c⟩:=tT h;exact ⟨a,v,List.mem_cons_of_mem _ b,c⟩
theorem Yv {new:Nat} {us:List Up} (h:∀u∈us,u.1=new):gZ new us= []:=by
 cases hw:gZ new us with
 |nil=>rfl
 |cons a l=>
  obtain ⟨h1,u,h2,h3⟩:=tT (new:=new) (us:=us) (id:=a) (by rw[hw];exact List.mem_cons_self)
  exact absurd (h3.symm.trans (h u h2)) h1
def lD:WK->List Nat
 |some (K,false)=> [K]
 |_=> []
def vu:WK->Bool
 |some (_,false)=>false
 |_=>true
def Gm (Wk:WK) (cur:Nat) (laid:bw):bw:=match Wk with|some q=>(q.1,cur)::laid|none=>laid
theorem ED {Wk:WK} {new:Nat} {us:List Up} {v:SV} {k:Nat} (hk:∀l,Wk≠some (k,l)):gq g (rb g Wk new us v) [k]:=by
 cases Wk with
 |none=>exact fun _ _=>⟨rfl,rfl,rfl⟩
 |some q=>
  show gq g (if dP new us=true then g.at q.1 new (Af v) else g) [k]
  split
  ·exact Si fun e=>hk q.2 (by rw[e])
  ·exact fun _ _=>⟨rfl,rfl,rfl⟩
theorem aaw {Wk:WK} {new:Nat} {us:List Up} {k:Nat} (hk:dP new us=false\/∀l,Wk≠some (k,l)):pG φ Wk new us k=φ k:=by
 cases Wk with
 |none=>rfl
 |some q=>
  show (if dP new us=true then fun k=>if k=q.1 then [new] else φ k else φ) k=φ k
  rcases hk with hk|hk
  ·rw[hk];rfl
  ·split
   ·exact if_neg fun e=>hk q.2 (by rw[e])
   ·rfl
theorem LP {Wk:WK} {new:Nat} {us:List Up} {k i:Nat} (hi:i∈pG φ Wk new us k):(i=new/\dP new us=true/\∃l,Wk=some (k,l))\/(i∈φ k/\(dP new us=false\/∀l,Wk≠some (k,l))):=by
 cases Wk with
 |none=>exact .inr ⟨hi,.inr fun l hl=>by cases hl⟩
 |some q=>
  have hi:i∈(if dP new us=true then fun k=>if k=q.1 then [new] else φ k else φ) k:=hi
  split at hi
  ·rename_i hn;by_cases hk:k=q.1
   ·rw[show (fun k=>if k=q.1 then [new] else φ k) k= [new] from if_pos hk] at hi
    exact .inl ⟨List.mem_singleton.1 hi,hn,q.2,by rw[hk]⟩
   ·rw[show (fun k=>if k=q.1 then [new] else φ k) k=φ k from if_neg hk] at hi
    exact .inr ⟨hi,.inr fun l hl=>hk (by cases hl;rfl)⟩
  ·rename_i hn;exact .inr ⟨hi,.inl (by cases hx:dP new us with|false=>rfl|true=>exact absurd hx hn)⟩
theorem nw {Wk:WK} {k:Nat} {b:Bx} (h:lk k (s.pt Wk).bs=some b):(∀l,Wk≠some (k,l))/\∃b0,lk k s.bs=some b0:=by
 cases Wk with
 |none=>exact ⟨fun l hl=>(by cases hl),b,h⟩
 |some q=>
  obtain ⟨h1,b0,h2,_⟩:=Ec (s:=s) (K:=q.1) h;exact ⟨fun l hl=>h1 (by cases hl;rfl),b0,h2⟩
theorem Xx (r:Rel B F g φ s tm.get h) (Wk:WK):Rel B F g φ (s.pt Wk) tm.get h:=by
 cases Wk with
 |none=>exact r
 |some q=>exact KY r q.1
theorem Fu {Wk:WK} {k:Nat} {b:Bx} (h1:∀l,Wk≠some (k,l)) (h2:lk k s.bs=some b):∃b',lk k (s.pt Wk).bs=some b':=by
 cases Wk with
 |none=>exact ⟨b,h2⟩
 |some q=>
  have hne:k≠q.1:=fun e=>h1 q.2 (by rw[e])
  show ∃b',lk k (bG q.1 (s.bs.map fun p=>(p.1,p.2.df q.1)))=some b'
  rw[dz,if_neg hne,iu,h2];exact ⟨_,rfl⟩
theorem BA {Wk:WK} {K:Nat} {l:Bool} (h:Wk=some (K,l)):(s.pt Wk).free K:=by
 subst h;exact Ft s K
theorem fJ {d:Option Nat} {x:AV}:(s.bc d x).bs=s.bs:=by cases d<;>rfl
theorem Ei {α:Type} {l l':List α} (h:l'.length=l.length) {j:Nat} {x:α} (hx:l'[j]? =some x):∃y,l[j]? =some y:=by
 have:=(List.getElem?_eq_some_iff.1 hx).1;exact ⟨_,List.getElem?_eq_some_iff.2 ⟨by omega,rfl⟩⟩
theorem DR.op (D:DR B base W cur nc vs laid pp g φ Fs lim tm.get h) {o:Oper} {m l:Nat} {x:AV} {Wk:WK} {sl:LS} {rk:List Nat} (fS:cur<W) (hl:vs[l]? =some sl) (hlen:vs'.length=vs.length)
  (hOK:∀j s,vs[j]? =some s->l<=j->∃t,vs'[j]? =some (t.bc o.dst x)/\aO E B o.op s t x Wk) (Ed:∀j s,vs[j]? =some s->j<l->vs'[j]? =some ((s.pt Wk).bc o.dst .undef))
  (hrk:tA sl.ts sl.bs o.op=some rk) (nY:∀k j,(k∈rk\/k∈lD Wk)->(k,j)∈laid->dM m j=true) (sM:∀q∈pp,yD l m rk (lD Wk) false (vu Wk) q.2):
  ∃v us,opA E o.op tm.get h.hp.get (base+cur)=some (v,us)/\cZ m ⟨cur,false,eP o.op tm.get,gZ (base+cur) us,base+cur,base+cur+1⟩ (pp.map (·.1))=true/\
   ∃g' φ',DR B base W (cur+1) nc vs' (Gm Wk cur laid) ((⟨cur,false,eP o.op tm.get,gZ (base+cur) us,base+cur,base+cur+1⟩,⟨cur,0,rk,lD Wk,vu Wk⟩)::pp) g' φ' Fs lim (bc tm o.dst v).get (h.ups us):=by
 generalize eX:base+cur=new;have kq:h.hp.get new=none:=by rw[<-eX];exact D.em cur (Nat.le_refl _) fS
 have hlo:B.nx<=new:=by have:=D.bn;omega
 obtain ⟨tl,tl1,tl2⟩:=hOK l sl hl (Nat.le_refl _);have rl:=D.r l sl hl;obtain ⟨v,us,o1,o2,o3,o4,o5,o6⟩:=tl2.go rl kq hlo;have hU:Upd h us new (h.ups us)\/(us= []/\h.ups us=h):=.inl ⟨fun _=>rfl,by rw[qh];exact Nat.le_refl _,by rw[qh];have:=D.hx;omega,fun y hy=>hy⟩
 have hnx:(h.ups us).nx=h.nx:=qh us h;have hw:∀id∈gZ new us,∃k∈lD Wk,∃b,lk k sl.bs=some b/\id∈φ k:=fun id hid=>by
  obtain ⟨h1,u,h2,h3⟩:=tT hid;rcases o4 u h2 with c|⟨K,b,c1,c2,c3⟩
  ·exact absurd (h3.symm.trans c) h1
  ·rw[c1];exact ⟨K,by simp[lD],b,c2,by rw[<-h3];exact c3⟩
 have hrd:∀id∈eP o.op tm.get,(∃o,Fs l id=some o)\/∃k∈rk,∃b,lk k sl.bs=some b/\id∈φ k:=fun id hid=>QJ rl hrk id hid
 have hwn:vu Wk=true->gZ new us= []:=fun hn=>Yv fun u hu=>(o4 u hu).elim (fun c=>c) fun ⟨K,b,c1,_⟩=>by rw[c1] at hn;cases hn
 refine ⟨v,us,o1,D.indep (rk:=rk) (wk:=lD Wk) (wn:=vu Wk) fS hl hrd hw (fun id h1 h2=>.inl (by
  have h1:new<=id:=h1;have h2:id<new+1:=h2;omega)) nY hwn sM,rb g Wk new us v,pG φ Wk new us,?_⟩
 have Re:∀(j:Nat) (s:LS),vs[j]? =some s->∀i,((∃o,Fs j i=some o)\/∃k b,(∀l,Wk≠some (k,l))/\lk k s.bs=some b/\i∈φ k)->∀u∈us,u.1≠i:=fun j s hj i hi u hu e=>by
  have hcom:∃t st,vs[t]? =some st/\j<=t/\l<=t:=by
   rcases Nat.le_total j l with c|c
   ·exact ⟨l,sl,hl,c,Nat.le_refl _⟩
   ·exact ⟨j,s,hj,Nat.le_refl _,c⟩
  obtain ⟨t,st,ht,t1,t2⟩:=hcom;have rt:=D.r t st ht;rcases o4 u hu with c|⟨K,b,c1,c2,c3⟩
  ·rw[e] at c;rcases hi with ⟨o,ho⟩|⟨k,b,_,hb,hi⟩
   ·rw[c] at ho;have:=(D.r j s hj).sub new o ho;rw[kq] at this;cases this
   ·exact ((D.r j s hj).bx k b hb).there i hi (by rw[c];exact kq)
  ·obtain ⟨b',hb'⟩:=(D.up l t sl st t2 hl ht).2 K b c2;rw[e] at c3;rcases hi with ⟨o,ho⟩|⟨k,b1,hk,hb,hi⟩
   ·have:=(D.up j t s st t1 hj ht).1 i o ho;rw[rt.nf K b' hb' i c3] at this;cases this
   ·obtain ⟨b2,hb2⟩:=(D.up j t s st t1 hj ht).2 k b1 hb;exact rt.dj k K b2 b' hb2 hb' (fun e=>hk false (by rw[e];exact c1)) i hi c3
 have sep:∀(j:Nat) (s:LS),vs[j]? =some s->∀i,((∃o,Fs j i=some o)\/∃k b,(∀l,Wk≠some (k,l))/\lk k s.bs=some b/\i∈φ k)->(h.ups us).hp.get i=h.hp.get i:=fun j s hj i hi=>tV us (fun u hu=>Re j s hj i hi u hu) h
 have seen:∀{j:Nat} {s':LS},vs'[j]? =some s'->∃s,vs[j]? =some s/\(∀k b,lk k s'.bs=some b->(∃b,lk k s.bs=some b)\/(dP new us=true/\∃l,Wk=some (k,l)))/\(j<l->∀k b,lk k s'.bs=some b->∀l,Wk≠some (k,l)):=fun {j s'} hj'=>by
  obtain ⟨s,hj⟩:=Ei hlen hj';refine ⟨s,hj,?_⟩;rcases Nat.lt_or_ge j l with c|c
  ·have:=Ed j s hj c;rw[hj'] at this;cases this;refine ⟨fun k b hb=> ?_,fun _ k b hb=> ?_⟩
   ·rw[fJ] at hb;exact .inl (nw hb).2
   ·rw[fJ] at hb;exact (nw hb).1
  ·obtain ⟨t,e1,e2⟩:=hOK j s hj c;rw[hj'] at e1;cases e1;obtain ⟨v',us',p1,p2,p3,p4,p5,p6⟩:=e2.go (D.r j s hj) kq hlo;rw[o1] at p1;cases p1;refine ⟨fun k b hb=> ?_,fun hc=>by omega⟩
   rw[fJ] at hb;exact p5 k b hb
 have same:∀{j1:Nat} {s1:LS} {k1:Nat} {b1:Bx} {j2:Nat} {s2:LS} {k2:Nat} {b2:Bx} {i:Nat},vs[j1]? =some s1->lk k1 s1.bs=some b1->i∈φ k1->vs[j2]? =some s2->lk k2 s2.bs=some b2->i∈φ k2->k1=k2:=fun {j1 s1 k1 b1 j2 s2 k2 b2 i} h1 h2 h3 h4 h5 h6=>by
  rcases Nat.le_total j1 j2 with c|c
  ·obtain ⟨b,hb⟩:=(D.up j1 j2 s1 s2 c h1 h4).2 k1 b1 h2;exact Classical.byContradiction fun hne=>(D.r j2 s2 h4).dj k1 k2 b b2 hb h5 hne i h3 h6
  ·obtain ⟨b,hb⟩:=(D.up j2 j1 s2 s1 c h4 h1).2 k2 b2 h5;exact Classical.byContradiction fun hne=>(D.r j1 s1 h1).dj k1 k2 b1 b h2 hb hne i h3 h6
 have noF:∀{j1:Nat} {s1:LS} {o:SO} {j2:Nat} {s2:LS} {k2:Nat} {b2:Bx} {i:Nat},vs[j1]? =some s1->Fs j1 i=some o->vs[j2]? =some s2->lk k2 s2.bs=some b2->i∈φ k2->False:=fun {j1 s1 o j2 s2 k2 b2 i} h1 h2 h4 h5 h6=>by
  rcases Nat.le_total j1 j2 with c|c
  ·have:=(D.up j1 j2 s1 s2 c h1 h4).1 i o h2;rw[(D.r j2 s2 h4).nf k2 b2 h5 i h6] at this;cases this
  ·obtain ⟨b,hb⟩:=(D.up j2 j1 s2 s1 c h4 h1).2 k2 b2 h5;rw[(D.r j1 s1 h1).nf k2 b hb i h6] at h2;cases h2
 have r2:∀(j:Nat) (s':LS),vs'[j]? =some s'->Rel B (Fs j) (rb g Wk new us v) (pG φ Wk new us) s' (bc tm o.dst v).get (h.ups us):=fun j s' hj'=>by
  obtain ⟨s,hj⟩:=Ei hlen hj';rcases Nat.lt_or_ge j l with c|c
  ·have:=Ed j s hj c;rw[hj'] at this;cases this;refine Rel.bc ?_ (fun hc=>absurd rfl hc)
   refine (Xx (D.r j s hj) Wk).Sh (o3 _ hU) (fun id o ho=>sep j s hj id (.inl ⟨o,ho⟩)) (fun k b hb i hi=> ?_) (fun k b hb=>aaw (.inr (nw hb).1)) (fun t y hy=> ?_) fun k b hb=>⟨ED (nw hb).1,?_⟩
   ·obtain ⟨c1,b0,c2⟩:=nw hb;exact sep j s hj i (.inr ⟨k,b0,c1,c2,hi⟩)
   ·intro k hk;refine ED (k:=k) (fun l hl=> ?_) k (by simp)
    exact (BA (s:=s) hl).1 t y hy hk
   ·intro k' hk';refine ED (k:=k') (fun l hl=> ?_) k' (by simp)
    exact (BA (s:=s) hl).2 k b (fun e=>(nw hb).1 l (by rw[e];exact hl)) hb hk'
  ·obtain ⟨t,e1,e2⟩:=hOK j s hj c;rw[hj'] at e1;cases e1;obtain ⟨v',us',p1,p2,p3,p4,p5,p6⟩:=e2.go (D.r j s hj) kq hlo;rw[o1] at p1;cases p1;exact (p3 _ hU).bc fun _=>p2
 refine ⟨r2,fun j j' s s' hjj hj hj'=> ?_,fun j s' hj' id o ho=> ?_,fun j s' hj' k b hb i hi=> ?_,fun j s' hj'=> ?_,by rw[hlen];exact D.top,by rw[hnx];exact D.hx,fun q hq hq'=> ?_,D.bn,fun q hq=> ?_,fun q hq id hid=> ?_,fun q hq j s' hj' k b hb i hi=> ?_,fun q hq i hi j s' hj'=> ?_,fun q hq hn=> ?_⟩
 ·obtain ⟨s0,a1,a2,a3⟩:=seen hj;obtain ⟨s0',b1,b2,b3⟩:=seen hj';refine ⟨(D.up j j' s0 s0' hjj a1 b1).1,fun k b hb=> ?_⟩
  rcases Nat.lt_or_ge j' l with c|c
  ·have e0:=Ed j' s0' b1 c;rw[hj'] at e0;cases e0;have hne:=a3 (by omega) k b hb
   rcases a2 k b hb with ⟨b',hb'⟩|⟨_,l',hl'⟩
   ·obtain ⟨b2',hb2'⟩:=(D.up j j' s0 s0' hjj a1 b1).2 k b' hb';rw[fJ];exact Fu hne hb2'
   ·exact absurd hl' (hne l')
  ·obtain ⟨t,e1,e2⟩:=hOK j' s0' b1 c;rw[hj'] at e1;cases e1;obtain ⟨v',us',p1,p2,p3,p4,p5,p6⟩:=e2.go (D.r j' s0' b1) kq hlo;rw[fJ];rcases a2 k b hb with ⟨b',hb'⟩|⟨_,l',hl'⟩
   ·exact p6 k (.inl ((D.up j j' s0 s0' hjj a1 b1).2 k b' hb'))
   ·exact p6 k (.inr ⟨l',hl'⟩)
 ·obtain ⟨s,hj⟩:=Ei hlen hj';exact D.fb j s hj id o ho
 ·obtain ⟨s0,a1,a2,a3⟩:=seen hj';rcases LP hi with ⟨c1,c2,l',c3⟩|⟨c1,c2⟩
  ·refine .inr (.inr ⟨cur,?_,Nat.lt_succ_self _,by rw[c1,eX]⟩)
   rw[c3];exact List.mem_cons_self
  ·have hs:∃b,lk k s0.bs=some b:=by
    rcases a2 k b hb with c|⟨d1,l',d2⟩
    ·exact c
    ·rcases c2 with c2|c2
     ·rw[c2] at d1;cases d1
     ·exact absurd d2 (c2 l')
   obtain ⟨b0,hb0⟩:=hs;rcases D.bb j s0 a1 k b0 hb0 i c1 with d|d|⟨q,d1,d2,d3⟩
   ·exact .inl d
   ·exact .inr (.inl d)
   ·refine .inr (.inr ⟨q,?_,by omega,d3⟩)
    unfold Gm;split
    ·exact List.mem_cons_of_mem _ d1
    ·exact d1
 ·obtain ⟨s,hj⟩:=Ei hlen hj';rw[hnx];exact D.lm j s hj
 ·have hq0:h.hp.get (base+q)=none:=D.em q (by omega) hq'
  rw[tV us (fun u hu e=> ?_) h]
  ·exact hq0
  ·rcases o4 u hu with c|⟨K,b,_,c2,c3⟩
   ·omega
   ·rw[e] at c3;exact (rl.bx K b c2).there _ c3 hq0
 ·rcases List.mem_cons.1 hq with rfl|hq
  ·exact ⟨rfl,Nat.lt_succ_self _,Nat.zero_le _,fun _=>⟨rfl,eX.symm,by show new+1=base+cur+1;omega⟩,fun hc=>absurd rfl hc⟩
  ·obtain ⟨p1,p2,p3,p4,p5⟩:=D.pi q hq;refine ⟨p1,by omega,p3,p4,fun hn=> ?_⟩
   obtain ⟨a1,a2,a3,a4⟩:=p5 hn;refine ⟨a1,a2,by rw[hnx];exact a3,fun j s' hj' hlt=> ?_⟩
   obtain ⟨s,hj⟩:=Ei hlen hj';exact a4 j s hj hlt
 ·rw[hnx];rcases List.mem_cons.1 hq with rfl|hq
  ·have oR:=D.lm l sl hl;have hid:(∃o,Fs l id=some o)\/∃k b,lk k sl.bs=some b/\id∈φ k:=by
    rcases hid with c|c
    ·rcases hrd id c with c|⟨k,_,b,c1,c2⟩
     ·exact .inl c
     ·exact .inr ⟨k,b,c1,c2⟩
    ·obtain ⟨k,_,b,c1,c2⟩:=hw id c;exact .inr ⟨k,b,c1,c2⟩
   rcases hid with ⟨o,ho⟩|⟨k,b,c1,c2⟩
   ·rcases D.fb l sl hl id o ho with d|d
    ·exact .inl d
    ·exact .inr (.inl (by omega))
   ·rcases D.bb l sl hl k b c1 id c2 with d|d|⟨q,d1,d2,d3⟩
    ·exact .inl d
    ·exact .inr (.inl (by omega))
    ·exact .inr (.inr ⟨q,(show q<=cur by omega),d3⟩)
  ·exact D.po q hq id hid
 ·obtain ⟨s0,a1,a2,a3⟩:=seen hj';have hs:(i=new)\/(i∈φ k/\∃b,lk k s0.bs=some b):=by
   rcases LP hi with ⟨c1,_⟩|⟨c1,c2⟩
   ·exact .inl c1
   ·refine .inr ⟨c1,?_⟩;rcases a2 k b hb with c|⟨d1,l',d2⟩
    ·exact c
    ·rcases c2 with c2|c2
     ·rw[c2] at d1;cases d1
     ·exact absurd d2 (c2 l')
  rcases List.mem_cons.1 hq with rfl|hq
  ·refine ⟨fun hr=> ?_,fun hr=> ?_⟩
   ·rcases hrd i hr with ⟨o,ho⟩|⟨k0,hk0,b0,c1,c2⟩
    ·rcases hs with rfl|⟨c1,b0,c2⟩
     ·rw[rl.sub _ o ho] at kq;cases kq
     ·exact (noF hl ho a1 c2 c1).elim
    ·rcases hs with rfl|⟨d1,b1,d2⟩
     ·exact absurd kq ((rl.bx k0 b0 c1).there _ c2)
     ·rw[same a1 d2 d1 hl c1 c2];exact hk0
   ·obtain ⟨k0,hk0,b0,c1,c2⟩:=hw i hr;rcases hs with rfl|⟨d1,b1,d2⟩
    ·exact absurd kq ((rl.bx k0 b0 c1).there _ c2)
    ·rw[same a1 d2 d1 hl c1 c2];exact hk0
  ·rcases hs with e|⟨d1,b1,d2⟩
   ·obtain ⟨p1,p2,_⟩:=D.pi q hq;have hno:¬(i∈q.1.rd\/i∈q.1.wr):=fun hc=>by
     have:=D.hx;rcases D.po q hq i hc with d|d|⟨j',d1,d2⟩<;>omega
    exact ⟨fun hc=>absurd (.inl hc) hno,fun hc=>absurd (.inr hc) hno⟩
   ·exact D.pr q hq j s0 a1 k b1 d2 i d1
 ·obtain ⟨s0,hj⟩:=Ei hlen hj';rcases List.mem_cons.1 hq with rfl|hq
  ·obtain ⟨k0,hk0,b0,c1,c2⟩:=hw i hi;cases hf:Fs j i with
   |none=>rfl
   |some o=>exact (noF hj hf hl c1 c2).elim
  ·exact D.pf q hq i hi j s0 hj
 ·rcases List.mem_cons.1 hq with rfl|hq
  ·exact hwn hn
  ·exact D.pw q hq hn
end
section
variable {F F':Hf} {g g':Gb} {B:Bs} {φ:Nat->List Nat} {s s' s1:LS} {tm:Tr SV} {h:Hs} {hp:Hf} {E:Env} {nt:Nat}
variable {base W cur nc:Nat} {vs vs':List LS} {laid:bw} {pp:List (Rc×PI)} {Fs:Nat->Hf} {lim:Nat->Nat}
theorem DR.skip (D:DR B base W cur nc vs laid pp g φ Fs lim tm.get h) {d:Option Nat} {m:Nat} (fS:cur<W):
  cZ m ⟨cur,false,[],[],base+cur,base+cur+1⟩ (pp.map (·.1))=true/\DR B base W (cur+1) nc (vs.map fun s=>s.bc d (.tup [])) laid ((⟨cur,false,[],[],base+cur,base+cur+1⟩,⟨cur,0,[],[],true⟩)::pp) g φ Fs lim (bc tm d (.tup [])).get h:=by
 have hlt:0<vs.length:=by rw[D.top];omega
 have hl:vs[0]? =some vs[0]:=List.getElem?_eq_getElem hlt;have back:∀{j:Nat} {s':LS},(vs.map fun s=>s.bc d (.tup []))[j]? =some s'->∃s,vs[j]? =some s/\s'=s.bc d (.tup []):=fun {j s'} hj=>by
  rw[List.getElem?_map] at hj;obtain ⟨s,hs,rfl⟩:=Option.map_eq_some_iff.1 hj;exact ⟨s,hs,rfl⟩
 refine ⟨?_,fun j s' hj=> ?_,fun j j' s s' hjj hj hj'=> ?_,fun j s' hj=> ?_,fun j s' hj k b hb i hi=> ?_,fun j s' hj=> ?_,by rw[List.length_map];exact D.top,D.hx,fun q hq hq'=>D.em q (by omega) hq',D.bn,fun q hq=> ?_,fun q hq id hid=> ?_,fun q hq j s' hj k b hb i hi=> ?_,fun q hq i hi j s' hj=> ?_,fun q hq hn=> ?_⟩
 ·refine D.indep (l:=0) (rk:= []) (wk:= []) (wn:=true) fS hl (fun id hid=>by cases hid) (fun id hid=>by cases hid) (fun id h1 h2=>.inl ?_) (fun k j hk=>by rcases hk with c|c<;>cases c) (fun _=>rfl) fun q hq=> ?_
  ·have h1:base+cur<=id:=h1;have h2:id<base+cur+1:=h2;omega
  ·exact .inr ⟨fun hn=>⟨by omega,rfl,rfl⟩,fun hc=>(by cases hc),fun k hk=>(by cases hk),fun k hk=>by cases hk⟩
 ·obtain ⟨s,hs,rfl⟩:=back hj;exact (D.r j s hs).bc fun _=>.tup .nil
 ·obtain ⟨s0,hs,rfl⟩:=back hj;obtain ⟨s0',hs',rfl⟩:=back hj';obtain ⟨a,b⟩:=D.up j j' s0 s0' hjj hs hs';exact ⟨a,fun k b' hb=>by rw[fJ] at hb ⊢;exact b k b' hb⟩
 ·obtain ⟨s,hs,rfl⟩:=back hj;exact D.fb j s hs
 ·obtain ⟨s,hs,rfl⟩:=back hj;rw[fJ] at hb;rcases D.bb j s hs k b hb i hi with c|c|⟨q,c1,c2,c3⟩
  ·exact .inl c
  ·exact .inr (.inl c)
  ·exact .inr (.inr ⟨q,c1,by omega,c3⟩)
 ·obtain ⟨s,hs,rfl⟩:=back hj;exact D.lm j s hs
 ·rcases List.mem_cons.1 hq with rfl|hq
  ·exact ⟨rfl,Nat.lt_succ_self _,Nat.zero_le _,fun _=>⟨rfl,rfl,rfl⟩,fun hc=>absurd rfl hc⟩
  ·obtain ⟨p1,p2,p3,p4,p5⟩:=D.pi q hq;refine ⟨p1,by omega,p3,p4,fun hn=> ?_⟩
   obtain ⟨a1,a2,a3,a4⟩:=p5 hn;exact ⟨a1,a2,a3,fun j s' hj hlt=>by obtain ⟨s,hs,rfl⟩:=back hj;exact a4 j s hs hlt⟩
 ·rcases List.mem_cons.1 hq with rfl|hq
  ·rcases hid with c|c<;>cases c
  ·exact D.po q hq id hid
 ·obtain ⟨s,hs,rfl⟩:=back hj;rw[fJ] at hb;rcases List.mem_cons.1 hq with rfl|hq
  ·exact ⟨fun hc=>(by cases hc),fun hc=>by cases hc⟩
  ·exact D.pr q hq j s hs k b hb i hi
 ·obtain ⟨s,hs,rfl⟩:=back hj;rcases List.mem_cons.1 hq with rfl|hq
  ·cases hi
  ·exact D.pf q hq i hi j s hs
 ·rcases List.mem_cons.1 hq with rfl|hq
  ·rfl
  ·exact D.pw q hq hn
def LS.uy (s:LS):List Nat->LS
 | []=>s
 |k::ks=>(s.l8 k).uy ks
theorem Rd {K K':Nat} (hf:s.free K):(s.l8 K').free K:=by
 refine ⟨fun t x hx hc=> ?_,fun k b hne hb hc=> ?_⟩
 ·obtain ⟨y,hy,rfl⟩:=aeY hx;unfold gN at hc;rw[aA] at hc;split at hc
  ·cases hc
  ·exact hf.1 t y hy hc
 ·obtain ⟨_,b0,h0,rfl⟩:=Ec hb;have h2:=hf.2 k b0 hne h0;cases b0 with
  |flat e cs=>
   have key:∀cs:List AV,K∈cM (qR K' cs)->K∈cM cs:=fun cs=>by
    induction cs with
    |nil=>exact fun h=>h
    |cons x l ih=>
     intro h;rcases List.mem_append.1 (show K∈bR (gN K' x)++cM (qR K' l) from h) with h|h
     ·unfold gN at h;rw[aA] at h;split at h
      ·cases h
      ·exact List.mem_append_left _ h
     ·exact List.mem_append_right _ (ih h)
   exact h2 (key cs hc)
  |hole e s0 Q i x=>
   refine h2 ?_;have h:K∈bR (gN K' x):=hc;unfold gN at h;rw[aA] at h;split at h
   ·cases h
   ·exact h
  |own e e' s0 Q o=>cases o with
   |none=>cases hc
   |some p=>
   refine h2 ?_;have h:K∈bR (gN K' p.2):=hc;unfold gN at h;rw[aA] at h;split at h
   ·cases h
   ·exact h
  |_=>cases hc
theorem Fv:∀(ks:List Nat) {s:LS},Rel B F g φ s tm.get h->Rel B F g φ (s.uy ks) tm.get h
 | [],_,r=>r
 |k::ks,_,r=>Fv ks (KY r k)
theorem KZ:∀{ks:List Nat} {s:LS} {k:Nat} {b:Bx},lk k (s.uy ks).bs=some b->k∉ks/\∃b0,lk k s.bs=some b0
 | [],_,_,b,h=>⟨fun hc=>(by cases hc),b,h⟩
 |K::ks,s,k,b,h=>by
  obtain ⟨h1,b0,h2⟩:=KZ (ks:=ks) (s:=s.l8 K) h;obtain ⟨h3,b1,h4,_⟩:=Ec h2;exact ⟨fun hc=>(List.mem_cons.1 hc).elim h3 h1,b1,h4⟩
theorem Fw:∀{ks:List Nat} {s:LS} {k:Nat} {b:Bx},k∉ks->lk k s.bs=some b->∃b',lk k (s.uy ks).bs=some b'
 | [],_,_,b,_,h=>⟨b,h⟩
 |K::ks,s,k,b,hk,h=>by
  obtain ⟨b',hb'⟩:=Fu (s:=s) (Wk:=some (K,true)) (k:=k) (fun l hl=>hk (by cases hl;exact List.mem_cons_self)) h
  exact Fw (ks:=ks) (s:=s.l8 K) (fun hc=>hk (List.mem_cons_of_mem _ hc)) hb'
theorem BB {K:Nat}:∀{ks:List Nat} {s:LS},s.free K->(s.uy ks).free K
 | [],_,h=>h
 |k::ks,_,h=>BB (ks:=ks) (Rd h)
theorem BC:∀{ks:List Nat} {s:LS} {K:Nat},K∈ks->(s.uy ks).free K
 |k::ks,s,K,h=>by
  rcases List.mem_cons.1 h with rfl|h
  ·exact BB (s:=s.l8 K) (Ft s K)
  ·exact BC (s:=s.l8 k) h
def LS.wK (s:LS):List Nat->LS
 | []=>s
 |k::ks=>(LS.mk s.ts (bG k s.bs)).wK ks
theorem wJ:∀{ks:List Nat} {s:LS} {k:Nat} {b:Bx},lk k (s.wK ks).bs=some b->k∉ks/\lk k s.bs=some b
 | [],_,_,b,h=>⟨fun hc=>(by cases hc),h⟩
 |K::ks,s,k,b,h=>by
  obtain ⟨h1,h2⟩:=wJ (ks:=ks) (s:=LS.mk s.ts (bG K s.bs)) h;have h2:lk k (bG K s.bs)=some b:=h2;rw[dz] at h2;split at h2
  ·cases h2
  ·rename_i hne;exact ⟨fun hc=>(List.mem_cons.1 hc).elim hne h1,h2⟩
theorem BR:∀{ks:List Nat} {s:LS} {k:Nat} {b:Bx},k∉ks->lk k s.bs=some b->lk k (s.wK ks).bs=some b
 | [],_,_,_,_,h=>h
 |K::ks,s,k,b,hk,h=>BR (ks:=ks) (s:=LS.mk s.ts (bG K s.bs)) (fun hc=>hk (List.mem_cons_of_mem _ hc)) (by
  show lk k (bG K s.bs)=some b;rw[dz,if_neg (fun (e:k=K)=>hk (by rw[e];exact List.mem_cons_self))];exact h)
theorem FG:∀{ks:List Nat} {s:LS},(s.wK ks).ts=s.ts
 | [],_=>rfl
 |K::ks,s=>FG (ks:=ks) (s:=LS.mk s.ts (bG K s.bs))
def LS.px (s:LS) (ps rs:bw):LS:=(s.wK (ps.map (·.1))).uy (rs.map (·.1))
theorem Xy (ps rs:bw) {s:LS} (r:Rel B F g φ s tm.get h):Rel B F g φ (s.px ps rs) tm.get h:=
 Fv _ (r.less ⟨fun t y hy=>.inr ⟨y,by rw[FG] at hy;exact hy,WV.refl y⟩,fun k b hb=>⟨b,(wJ hb).2,WB.refl b⟩⟩)
theorem jT {ps rs:bw} {s:LS} {k:Nat} {b:Bx} (h:lk k (s.px ps rs).bs=some b):k∉(ps++rs).map (·.1)/\∃b0,lk k s.bs=some b0:=by
 obtain ⟨h1,b0,h2⟩:=KZ h;obtain ⟨h3,h4⟩:=wJ h2;rw[List.map_append];exact ⟨fun hc=>(List.mem_append.1 hc).elim h3 h1,b0,h4⟩
theorem Xz {ps rs:bw} {s:LS} {k:Nat} {b:Bx} (hk:k∉(ps++rs).map (·.1)) (h:lk k s.bs=some b):∃b',lk k (s.px ps rs).bs=some b':=by
 rw[List.map_append] at hk;exact Fw (fun hc=>hk (List.mem_append_right _ hc)) (BR (fun hc=>hk (List.mem_append_left _ hc)) h)
theorem BD {ps rs:bw} {s:LS} {q:Nat×Nat} (hq:q∈rs):(s.px ps rs).free q.1:=BC (List.mem_map.2 ⟨q,hq,rfl⟩)
theorem my {n x:Nat}:∀{l acc:List Nat},x∈below n l acc->x∈acc\/(x∈l/\x<n)
 | [],_,hx=>.inl hx
 |y::l,acc,hx=>by
  have hx:x∈sel (Nat.ble (Nat.succ y) n) (below n l (y::acc)) (below n l acc):=hx;rw[aA] at hx;split at hx
  ·rename_i hlt;rcases my hx with c|c
   ·rcases List.mem_cons.1 c with rfl|c
    ·exact .inr ⟨by simp,Nat.le_of_ble_eq_true hlt⟩
    ·exact .inl c
   ·exact .inr ⟨List.mem_cons_of_mem _ c.1,c.2⟩
  ·rcases my hx with c|c
   ·exact .inl c
   ·exact .inr ⟨List.mem_cons_of_mem _ c.1,c.2⟩
theorem DR.call (D:DR B base W cur nc vs laid pp g φ Fs lim tm.get h) {d:Option Nat} {m f:Nat} {st:LS} {ps rs:bw} {bs bs' ob:List (Nat×Bx)} {xs:List AV} {y:AV} {aa:List SV} (fS:cur<W) (hst:vs[nc]? =some st) (hg:pA (ps++rs)=true) (hps:pd st.bs (ps++rs) ps=some bs) (hkb:pq st.bs ps ps=true) (hkx:fk ps (cM xs)=true) (has:VAs (Fs nc) g aa xs)
  (hrs:∀q∈rs,st.free q.1/\B.pk q.1=false/\lk q.1 st.bs=none) (hc:bl E f bs (iD (fiP (ps++rs)) xs) y bs') (hob:uc bs' (ps++rs) (ps++rs)=some ob) (hko:pj bs' (ps++rs) (ps++rs)=true) (hky:fk (kn (ps++rs)) (bR y)=true)
  (nY:∀k j,k∈ps.map (·.1)->(k,j)∈laid->dM m j=true) (sM:∀q∈pp,yD nc m [] (ps.map (·.1)) true false q.2):
  ∃v h2,bA E (.call (.fn (.func f) [] []) aa ⟨fR m (pp.map (·.1)) h.hp,h.nx,[]⟩) (.bX [⟨false,v,h2⟩])/\cZ m ⟨cur,true,[],below h.nx h2.lg [],h.nx,h2.nx⟩ (pp.map (·.1))=true/\
   ∃g' φ' Fs' D5,DR B base W (cur+1) (nc+1) ((vs.map fun s=>(s.px ps rs).bc d .undef)++ [LS.bc ⟨st.ts,ob++st.bs⟩ d (kh (foP (ps++rs)) y)]) laid ((⟨cur,true,[],below h.nx h2.lg [],h.nx,h2.nx⟩,⟨cur,nc+1,[],ps.map (·.1),false⟩)::pp) g' φ' Fs' D5 (bc tm d v).get ⟨eD m h.hp (pp.map (·.1)) h2.hp,h2.nx,below h.nx h2.lg h.lg⟩:=by
 have rt:=D.r nc st hst;have hpm:∀{K k b},(K,k)∈ps->lk K st.bs=some b->K∈ps.map (·.1):=fun h1 _=>List.mem_map.2 ⟨_,h1,rfl⟩
 have Rm:∀x,Hid m (pp.map (·.1)) x->∃q∈pp,dM m q.2.i=false/\q.2.n=0/\x=base+q.2.i/\q.2.i<cur:=fun x ⟨p,hp,h1,h2⟩=>by
  obtain ⟨q,hq,rfl⟩:=List.mem_map.1 hp;obtain ⟨p1,p2,p3,p4,p5⟩:=D.pi q hq;rw[p1] at h1;have hn:q.2.n=0:=by
   rcases sM q hq with c|⟨c,_⟩
   ·rw[h1] at c;cases c
   ·exact Classical.byContradiction fun hn=>by have:=(c hn).1;omega
  exact ⟨q,hq,h1,hn,by rw[<-h2];exact (p4 hn).2.1,p2⟩
 have oR:=D.lm nc st hst;have hnoH:∀{K k b},(K,k)∈ps->lk K st.bs=some b->∀i∈φ K,¬Hid m (pp.map (·.1)) i:=fun {K k b} h1 h2 i hi hc=>by
  obtain ⟨q,hq,b1,b2,b3,b4⟩:=Rm i hc;rcases D.bb nc st hst K b h2 i hi with c|c|⟨j,c1,c2,c3⟩
  ·omega
  ·omega
  ·have e:j=q.2.i:=by omega
   have:=nY K j (hpm h1 h2) c1;rw[e,b1] at this;cases this
 obtain ⟨F',g2,φ2,h1,v,go,hv,hr,hF,hFn,hnx1,hlg1,hφn,hgs,Q9,hold⟩:=rt.call (hh:=⟨fR m (pp.map (·.1)) h.hp,h.nx,[]⟩) (Hd:=Hid m (pp.map (·.1))) (fun x hx=>(eK _ _ x).2 hx) (fun x hx=>by
  obtain ⟨q,hq,b1,b2,b3,b4⟩:=Rm x hx;refine ⟨(eK _ _ x).1 hx,?_,?_,fun K k b m1 m2 hi=>hnoH m1 m2 x hi hx⟩
  ·cases hf:Fs nc x with
   |none=>rfl
   |some o=>rcases D.fb nc st hst x o hf with c|c<;>omega
  ·show x<h.nx;have:=D.hx;omega) rfl hg hps hkb hkx has hrs hc hob hko hky
 have hnx1:h.nx<=h1.nx:=hnx1;generalize hh2:(⟨h1.hp,h1.nx,below h.nx h1.lg []⟩:Hs)=h2 at go;have e1:h2.hp=h1.hp:=by rw[<-hh2]
 have e2:h2.nx=h1.nx:=by rw[<-hh2]
 have e3:h2.lg=below h.nx h1.lg []:=by rw[<-hh2]
 have hwr:∀id∈below h.nx h2.lg [],id<h.nx/\∃k∈ps.map (·.1),∃b,lk k st.bs=some b/\id∈φ k:=fun id hid=>by
  rcases my hid with c|⟨c1,c2⟩
  ·cases c
  ·rw[e3] at c1;rcases my c1 with c|⟨c3,_⟩
   ·cases c
   ·obtain ⟨K,k,b,d1,d2,d3⟩:=hlg1 id c3 c2;exact ⟨c2,K,hpm d1 d2,b,d2,d3⟩
 have Qd:=hr ⟨eD m h.hp (pp.map (·.1)) h2.hp,h2.nx,below h.nx h2.lg h.lg⟩ (fun x hx=>((iU _ _ x).2 hx).trans (by rw[e1])) (fun x hx=>(iU _ _ x).1 hx) e2 (fun x hx=>by
  rcases my hx with c|⟨c1,c2⟩
  ·exact .inl c
  ·rw[e3] at c1;rcases my c1 with c|⟨c3,_⟩
   ·cases c
   ·exact .inr ⟨c3,c2⟩)
 generalize hh':(⟨eD m h.hp (pp.map (·.1)) h2.hp,h2.nx,below h.nx h2.lg h.lg⟩:Hs)=h' at*
 have nx':h'.nx=h1.nx:=by rw[<-hh',<-e2]
 have gf:∀x,x<h.nx->(∀K k b,(K,k)∈ps->lk K st.bs=some b->x∉φ K)->h'.hp.get x=h.hp.get x:=fun x hx hno=>by
  rw[<-hh'];show (eD m h.hp (pp.map (·.1)) h2.hp).get x=_
  by_cases c:Hid m (pp.map (·.1)) x
  ·exact (iU _ _ x).1 c
  ·rw[(iU _ _ x).2 c,e1,hold x hx hno];exact (eK _ _ x).2 c
 let Fs':Nat->Hf:=fun j=>if j=nc+1 then F' else Fs j
 let D5:Nat->Nat:=fun j=>if j=nc+1 then h1.nx else lim j
 have Fo:∀{j},j<=nc->Fs' j=Fs j:=fun {j} hj=>if_neg (by omega)
 have Fn:Fs' (nc+1)=F':=if_pos rfl;have lo:∀{j},j<=nc->D5 j=lim j:=fun {j} hj=>if_neg (by omega)
 have ln:D5 (nc+1)=h1.nx:=if_pos rfl;generalize hvs:(vs.map fun s=>(s.px ps rs).bc d .undef)++ [LS.bc ⟨st.ts,ob++st.bs⟩ d (kh (foP (ps++rs)) y)]=vs2
 have view:∀{j:Nat} {s':LS},vs2[j]? =some s'->(j<=nc/\∃s,vs[j]? =some s/\s'=(s.px ps rs).bc d .undef)\/(j=nc+1/\s'=LS.bc ⟨st.ts,ob++st.bs⟩ d (kh (foP (ps++rs)) y)):=fun {j s'} hj=>by
  rw[<-hvs,List.getElem?_append] at hj;split at hj
  ·rename_i hlt;rw[List.length_map,D.top] at hlt;rw[List.getElem?_map] at hj;obtain ⟨s,hs,rfl⟩:=Option.map_eq_some_iff.1 hj;exact .inl ⟨by omega,s,hs,rfl⟩
  ·rename_i hlt;rw[List.length_map,D.top] at hlt hj;have:j-(nc+1)=0:=by
    have:=(List.getElem?_eq_some_iff.1 hj).1;simp at this;omega
   rw[this] at hj;cases hj;exact .inr ⟨by omega,rfl⟩
 have Q7:∀{j:Nat} {s:LS} {k:Nat} {b:Bx},vs[j]? =some s->lk k s.bs=some b->∃b',lk k st.bs=some b':=fun {j s k b} hj hb=>by
  have hle:j<=nc:=by have:=(List.getElem?_eq_some_iff.1 hj).1;rw[D.top] at this;omega
  exact (D.up j nc s st hle hj hst).2 k b hb
 have nal:∀{K:Nat},K∉(ps++rs).map (·.1)->lk K (ps++rs)=none:=fun {K} hK=>by
  cases hl:lk K (ps++rs) with
  |none=>rfl
  |some k=>exact absurd (List.mem_map.2 ⟨_,ou hl,rfl⟩) hK
 have Sh:∀{j:Nat} {s:LS} {k:Nat} {b:Bx} {i:Nat},vs[j]? =some s->k∉(ps++rs).map (·.1)->lk k s.bs=some b->i∈φ k->i<h.nx/\∀K k' b',(K,k')∈ps->lk K st.bs=some b'->i∉φ K:=fun {j s k b i} hj hk hb hi=>by
  obtain ⟨b1,hb1⟩:=Q7 hj hb;refine ⟨rt.lt hb1 i hi,fun K k' b' m1 m2 hc=>rt.dj k K b1 b' hb1 m2 (fun e=>hk ?_) i hi hc⟩
  rw[e];exact List.mem_map.2 ⟨_,List.mem_append_left _ m1,rfl⟩
 have PN:∀{k b},lk k (ob++st.bs)=some b->∀i∈φ2 k,(i<h.nx/\∃b,lk k st.bs=some b/\i∈φ k)\/h.nx<=i:=fun hb i hi=>hφn _ _ hb i hi
 have r2:∀(j:Nat) (s':LS),vs2[j]? =some s'->Rel B (Fs' j) g2 φ2 s' (bc tm d v).get h':=fun j s' hj=>by
  rcases view hj with ⟨hle,s,hs,rfl⟩|⟨rfl,rfl⟩
  ·rw[Fo hle];refine Rel.bc ?_ (fun hc=>absurd rfl hc)
   refine (Xy ps rs (D.r j s hs)).Sh Qd (fun id o ho=> ?_) (fun k b hb i hi=> ?_) (fun k b hb=>Q9 k (nal (jT hb).1)) (fun t y hy=> ?_) fun k b hb=>⟨?_,?_⟩
   ·have hot:=(D.up j nc s st hle hs hst).1 id o ho;exact gf id (rt.flt hot) fun K k b m1 m2 hi=>by rw[rt.nf K b m2 id hi] at hot;cases hot
   ·obtain ⟨c1,b0,c2⟩:=jT hb;obtain ⟨d1,d2⟩:=Sh hs c1 c2 hi;exact gf i d1 d2
   ·exact hgs _ fun q hq hc=>(BD (ps:=ps) (s:=s) hq).1 t y hy hc
   ·exact hgs _ fun q hq hc=>(jT hb).1 (by rw[<-List.mem_singleton.1 hc];exact List.mem_map.2 ⟨q,List.mem_append_right _ hq,rfl⟩)
   ·exact hgs _ fun q hq hc=>(BD (ps:=ps) (s:=s) hq).2 k b (fun e=>(jT hb).1 (by rw[e];exact List.mem_map.2 ⟨q,List.mem_append_right _ hq,rfl⟩)) hb hc
  ·rw[Fn];exact Qd.bc fun _=>hv
 refine ⟨v,h2,go,?_,g2,φ2,Fs',D5,?_⟩
 ·refine D.indep (rk:= []) (wk:=ps.map (·.1)) (wn:=false) fS hst (fun id hid=>by cases hid) (fun id hid=>(hwr id hid).2) (fun id h3 h4=>.inr h3) (fun k j hk=>by
   rcases hk with c|c
   ·cases c
   ·exact nY k j c) (fun hc=>by cases hc) sM
 rw[hh'];refine ⟨r2,fun j j' s s' hjj hj hj'=> ?_,fun j s' hj id o ho=> ?_,fun j s' hj k b hb i hi=> ?_,fun j s' hj=> ?_,by rw[<-hvs,List.length_append,List.length_map,D.top];rfl,(by rw[nx'];have:=D.hx;omega),fun q hq hq'=> ?_,D.bn,fun q hq=> ?_,fun q hq id hid=> ?_,fun q hq j s' hj k b hb i hi=> ?_,fun q hq i hi j s' hj=> ?_,fun q hq hn=> ?_⟩
 ·rcases view hj with ⟨a1,s0,a2,rfl⟩|⟨rfl,rfl⟩
  ·rcases view hj' with ⟨b1,s0',b2,rfl⟩|⟨rfl,rfl⟩
   ·rw[Fo a1,Fo b1];obtain ⟨u1,u2⟩:=D.up j j' s0 s0' hjj a2 b2;refine ⟨u1,fun k b hb=> ?_⟩
    rw[fJ] at hb ⊢;obtain ⟨c1,b0,c2⟩:=jT hb;obtain ⟨b3,c3⟩:=u2 k b0 c2;exact Xz c1 c3
   ·rw[Fo a1,Fn];refine ⟨(D.up j nc s0 st a1 a2 hst).1.trans hF,fun k b hb=> ?_⟩
    rw[fJ] at hb ⊢;obtain ⟨c1,b0,c2⟩:=jT hb;obtain ⟨b3,c3⟩:=Q7 a2 c2;show ∃b',lk k (ob++st.bs)=some b';rw[vX,c3];cases lk k ob with
    |none=>exact ⟨_,rfl⟩
    |some b4=>exact ⟨_,rfl⟩
  ·rcases view hj' with ⟨b1,s0',b2,rfl⟩|⟨rfl,rfl⟩
   ·omega
   ·exact ⟨Hle.refl _,fun k b hb=>⟨b,hb⟩⟩
 ·rcases view hj with ⟨a1,s0,a2,rfl⟩|⟨rfl,rfl⟩
  ·rw[Fo a1] at ho;rw[lo a1];exact D.fb j s0 a2 id o ho
  ·rw[Fn] at ho;rw[ln];rcases hFn id o ho with c|c
   ·rcases D.fb nc st hst id o c with d|d
    ·exact .inl d
    ·exact .inr (by omega)
   ·have:=Qd.flt ho;rw[nx'] at this;have:=D.hx;exact .inr (by omega)
 ·rcases view hj with ⟨a1,s0,a2,rfl⟩|⟨rfl,rfl⟩
  ·rw[lo a1];rw[fJ] at hb;obtain ⟨c1,b0,c2⟩:=jT hb;rw[Q9 k (nal c1)] at hi;rcases D.bb j s0 a2 k b0 c2 i hi with c|c|⟨q,c1,c2,c3⟩
   ·exact .inl c
   ·exact .inr (.inl c)
   ·exact .inr (.inr ⟨q,c1,by omega,c3⟩)
  ·rw[ln];rw[fJ] at hb;rcases PN hb i hi with ⟨c1,b0,c2,c3⟩|c
   ·rcases D.bb nc st hst k b0 c2 i c3 with c|c|⟨q,c4,c5,c6⟩
    ·exact .inl c
    ·exact .inr (.inl (by omega))
    ·exact .inr (.inr ⟨q,c4,by omega,c6⟩)
   ·have:=Qd.lt hb i hi;rw[nx'] at this;have:=D.hx;exact .inr (.inl (by omega))
 ·rw[nx'];rcases view hj with ⟨a1,s0,a2,rfl⟩|⟨rfl,rfl⟩
  ·rw[lo a1];have:=D.lm j s0 a2;omega
  ·rw[ln];have:=D.hx;omega
 ·have hq0:h.hp.get (base+q)=none:=D.em q (by omega) hq'
  rw[gf (base+q) (by have:=D.hx;omega) fun K k b m1 m2 hc=>(rt.bx K b m2).there _ hc hq0]
  exact hq0
 ·rcases List.mem_cons.1 hq with rfl|hq
  ·refine ⟨rfl,Nat.lt_succ_self _,Nat.le_refl _,fun hc=>(by cases hc),fun _=>⟨rfl,D.hx,?_,fun j s' hj hlt=> ?_⟩⟩
   ·rw[nx'];exact Nat.le_of_eq e2
   ·rcases view hj with ⟨a1,s0,a2,rfl⟩|⟨rfl,rfl⟩
    ·rw[lo a1];exact (D.lm j s0 a2).2
    ·have hlt:nc+1<nc+1:=hlt;omega
  ·obtain ⟨p1,p2,p3,p4,p5⟩:=D.pi q hq;refine ⟨p1,by omega,by omega,p4,fun hn=> ?_⟩
   obtain ⟨a1,a2,a3,a4⟩:=p5 hn;refine ⟨a1,a2,by rw[nx'];omega,fun j s' hj hlt=> ?_⟩
   rcases view hj with ⟨c1,s0,c2,rfl⟩|⟨rfl,rfl⟩
   ·rw[lo c1];exact a4 j s0 c2 hlt
   ·omega
 ·rw[nx'];rcases List.mem_cons.1 hq with rfl|hq
  ·rcases hid with c|c
   ·cases c
   ·obtain ⟨c0,k,_,b,c1,c2⟩:=hwr id c;rcases D.bb nc st hst k b c1 id c2 with d|d|⟨q,d1,d2,d3⟩
    ·exact .inl d
    ·exact .inr (.inl (by omega))
    ·exact .inr (.inr ⟨q,(show q<=cur by omega),d3⟩)
  ·rcases D.po q hq id hid with c|c|c
   ·exact .inl c
   ·exact .inr (.inl (by omega))
   ·exact .inr (.inr c)
 ·rcases List.mem_cons.1 hq with rfl|hq
  ·refine ⟨fun hc=>(by cases hc),fun hc=> ?_⟩
   obtain ⟨c0,k0,hk0,b0,c1,c2⟩:=hwr i hc;rcases view hj with ⟨a1,s0,a2,rfl⟩|⟨rfl,rfl⟩
   ·rw[fJ] at hb;obtain ⟨d1,b1,d2⟩:=jT hb;rw[Q9 k (nal d1)] at hi;obtain ⟨b2,d3⟩:=Q7 a2 d2;have e:k=k0:=Classical.byContradiction fun hne=>rt.dj k k0 b2 b0 d3 c1 hne i hi c2
    rw[e];exact hk0
   ·rw[fJ] at hb;rcases PN hb i hi with ⟨_,b1,d2,d3⟩|d
    ·have e:k=k0:=Classical.byContradiction fun hne=>rt.dj k k0 b1 b0 d2 c1 hne i d3 c2
     rw[e];exact hk0
    ·omega
  ·rcases view hj with ⟨a1,s0,a2,rfl⟩|⟨rfl,rfl⟩
   ·rw[fJ] at hb;obtain ⟨d1,b1,d2⟩:=jT hb;rw[Q9 k (nal d1)] at hi;exact D.pr q hq j s0 a2 k b1 d2 i hi
   ·rw[fJ] at hb;rcases PN hb i hi with ⟨_,b1,d2,d3⟩|dge
    ·exact D.pr q hq nc st hst k b1 d2 i d3
    ·have hno:¬(i∈q.1.rd\/i∈q.1.wr):=fun hc=>by
      have:=D.hx;obtain ⟨_,p2,_⟩:=D.pi q hq;rcases D.po q hq i hc with d|d|⟨j',d1,d2⟩<;>omega
     exact ⟨fun hc=>absurd (.inl hc) hno,fun hc=>absurd (.inr hc) hno⟩
 ·rcases List.mem_cons.1 hq with rfl|hq
  ·obtain ⟨c0,k0,hk0,b0,c1,c2⟩:=hwr i hi;rcases view hj with ⟨a1,s0,a2,rfl⟩|⟨rfl,rfl⟩
   ·rw[Fo a1];cases hf:Fs j i with
    |none=>rfl
    |some o=>
     have:=(D.up j nc s0 st a1 a2 hst).1 i o hf;rw[rt.nf k0 b0 c1 i c2] at this;cases this
   ·rw[Fn];cases hf:F' i with
    |none=>rfl
    |some o=>
     rcases hFn i o hf with c|c
     ·rw[rt.nf k0 b0 c1 i c2] at c;cases c
     ·omega
  ·rcases view hj with ⟨a1,s0,a2,rfl⟩|⟨rfl,rfl⟩
   ·rw[Fo a1];exact D.pf q hq i hi j s0 a2
   ·rw[Fn];cases hf:F' i with
    |none=>rfl
    |some o=>
     rcases hFn i o hf with c|c
     ·rw[D.pf q hq i hi nc st hst] at c;cases c
     ·have:=D.hx;obtain ⟨_,p2,_⟩:=D.pi q hq;rcases D.po q hq i (.inr hi) with d|d|⟨j',d1,d2⟩<;>omega
 ·rcases List.mem_cons.1 hq with rfl|hq
  ·cases hn
  ·exact D.pw q hq hn
end
section
variable {F F':Hf} {g g':Gb} {B:Bs} {φ:Nat->List Nat} {s s' s1:LS} {tm:Tr SV} {h:Hs} {hp:Hf} {E:Env} {nt:Nat}
variable {W cur nc M:Nat} {vs vs':List LS} {laid:bw} {pis:List PI} {all l:List Oper} {o:Oper}
def dH (E:Env) (nt:Nat) (B:Bs) (all:List Oper) (W cur nc M:Nat) (vs:List LS) (laid:bw) (pis:List PI) (l:List Oper) (s':LS):Prop:=
 ∀{base:Nat} {pp:List (Rc×PI)} {g:Gb} {φ:Nat->List Nat} {Fs:Nat->Hf} {lim:Nat->Nat} {tm:Tr SV} {h:Hs},pp.map (·.2)=pis->DR B base W cur nc vs laid pp g φ Fs lim tm.get h->∃F' g' φ' tm' h',Rel B F' g' φ' s' (Tr.get tm') h'/\bA E (.draw nt W all base cur M (pp.map (·.1)) l tm h) (.st tm' h')
theorem dH.nil (hs:vs[nc]? =some s'):dH E nt B all W cur nc M vs laid pis [] s':=fun {base pp g φ Fs lim tm h} _ D=>⟨Fs nc,g,φ,tm,h,D.r nc s' hs,.aff⟩
theorem dH.skip {st:LS} (fS:cur<W) (hd:(cm nt o.dst&&gp cur (dB o))=true) (hst:vs[nc]? =some st) (hw:jL all o st.ts=some false)
  (hl:dH E nt B all W (cur+1) nc (mH W M cur (cA W M o)) (vs.map fun s=>s.bc o.dst (.tup [])) laid (⟨cur,0,[],[],true⟩::pis) l s'):dH E nt B all W cur nc M vs laid pis (o::l) s':=fun {base pp g φ Fs lim tm h} hp D=>by
 obtain ⟨hi,D2⟩:=D.skip (d:=o.dst) (m:=cA W M o) fS;obtain ⟨F',g',φ',tm',h',r',go⟩:=hl (by rw[List.map_cons,hp]) D2
 exact ⟨F',g',φ',tm',h',r',.aak hd (pU (D.r nc st hst) hw) hi go⟩
theorem dH.op {x:AV} {Wk:WK} {st sl:LS} {rk:List Nat} {v:Nat} (fS:cur<W) (hd:(cm nt o.dst&&gp cur (dB o))=true) (hst:vs[nc]? =some st) (hw:jL all o st.ts=some true) (hc:dG o.op=none) (hl:vs[v]? =some sl) (hlen:vs'.length=vs.length)
  (hOK:∀j s,vs[j]? =some s->v<=j->∃t,vs'[j]? =some (t.bc o.dst x)/\aO E B o.op s t x Wk) (Ed:∀j s,vs[j]? =some s->j<v->vs'[j]? =some ((s.pt Wk).bc o.dst .undef))
  (hrk:tA sl.ts sl.bs o.op=some rk) (nY:∀k j,(k∈rk\/k∈lD Wk)->(k,j)∈laid->dM (cA W M o) j=true) (sM:∀q∈pis,yD v (cA W M o) rk (lD Wk) false (vu Wk) q)
  (hn:dH E nt B all W (cur+1) nc (mH W M cur (cA W M o)) vs' (Gm Wk cur laid) (⟨cur,0,rk,lD Wk,vu Wk⟩::pis) l s'):dH E nt B all W cur nc M vs laid pis (o::l) s':=fun {base pp g φ Fs lim tm h} hp D=>by
 obtain ⟨u,us,o1,o2,g',φ',D2⟩:=D.op fS hl hlen hOK Ed hrk nY fun q hq=>sM q.2 (by rw[<-hp];exact List.mem_map.2 ⟨q,hq,rfl⟩)
 obtain ⟨F2,g2,φ2,tm',h',r',go⟩:=hn (by rw[List.map_cons,hp]) D2
 exact ⟨F2,g2,φ2,tm',h',r',.afd hd (pU (D.r nc st hst) hw) hc o1 o2 go⟩
theorem dH.call {c:Call} {w:Operand} {f:Nat} {st:LS} {ps rs:bw} {bs bs' ob:List (Nat×Bx)} {fi ca xs:List AV} {y:AV} (fS:cur<W) (hd:(cm nt o.dst&&gp cur (dB o))=true) (hst:vs[nc]? =some st) (hw:jL all o st.ts=some true) (hc:dG o.op=some c) (hf:c.callee= .value w) (hfv:aK st.ts w= .fn f fi ca) (hxs:fi++gh st.ts c.args.toList++ca=xs) (hu:fg (gh st.ts c.args.toList)=true)
  (hg:pA (ps++rs)=true) (hps:pd st.bs (ps++rs) ps=some bs) (hkb:pq st.bs ps ps=true) (hkx:fk ps (cM xs)=true) (hrs:∀q∈rs,st.free q.1/\B.pk q.1=false/\lk q.1 st.bs=none) (hC:bl E f bs (iD (fiP (ps++rs)) xs) y bs') (hob:uc bs' (ps++rs) (ps++rs)=some ob) (hko:pj bs' (ps++rs) (ps++rs)=true) (hky:fk (kn (ps++rs)) (bR y)=true)
  (nY:∀k j,k∈ps.map (·.1)->(k,j)∈laid->dM (cA W M o) j=true) (sM:∀q∈pis,yD nc (cA W M o) [] (ps.map (·.1)) true false q)
  (hn:dH E nt B all W (cur+1) (nc+1) (mH W M cur (cA W M o)) ((vs.map fun s=>(s.px ps rs).bc o.dst .undef)++ [LS.bc ⟨st.ts,ob++st.bs⟩ o.dst (kh (foP (ps++rs)) y)]) laid (⟨cur,nc+1,[],ps.map (·.1),false⟩::pis) l s'):dH E nt B all W cur nc M vs laid pis (o::l) s':=fun {base pp g φ Fs lim tm h} hp D=>by
 subst hxs;have rt:=D.r nc st hst;obtain ⟨aa,a1,a2⟩:=rt.bE hu;obtain ⟨fv,f1,f2⟩:=rt.val hfv (by simp)
 obtain ⟨fs,cs,rfl,k1,k2⟩:∃fs cs,fv= .fn (.func f) fs cs/\VAs (Fs nc) g fs fi/\VAs (Fs nc) g cs ca:=by
  cases f2 with
  |fn _ h1 h2=>exact ⟨_,_,rfl,h1,h2⟩
 replace a2:=(k1.append a2).append k2;obtain ⟨u,h2,go,hi,g',φ',Fs',D5,D2⟩:=D.call (d:=o.dst) (m:=cA W M o) fS hst hg hps hkb hkx a2 hrs hC hob hko hky nY fun q hq=>sM q.2 (by rw[<-hp];exact List.mem_map.2 ⟨q,hq,rfl⟩)
 obtain ⟨F2,g2,φ2,tm',h',r',go2⟩:=hn (by rw[List.map_cons,hp]) D2
 exact ⟨F2,g2,φ2,tm',h',r',.aan hd (pU rt hw) hc (by rw[hf];exact f1) a1 go.dr hi go2⟩
theorem Wk.drawn {id:Nat} {ops:Array Oper} {ks:List KI} {Q:Ex->LS->Prop} (hl:dH E nt B ops.toList ops.size 0 0 0 [s] [] [] ops.toList s1) (hk:WkO E nt B .normal ks s1 Q):Wk E nt B (.region id ops true) ks s Q:=fun {F g φ tm h} r=>by
 have view:∀{j:Nat} {s':LS},[s][j]? =some s'->j=0/\s'=s:=fun {j s'} hj=>by
  cases j with
  |zero=>cases hj;exact ⟨rfl,rfl⟩
  |succ j=>simp at hj
 have D:DR B h.nx ops.size 0 0 [s] [] [] g φ (fun _=>F) (fun _=>h.nx+ops.size) tm.get ⟨h.hp,Nat.add h.nx ops.size,h.lg⟩:=by
  have hn:h.nx<=Nat.add h.nx ops.size:=Nat.le_add_right _ _;refine ⟨fun j s' hj=> ?_,fun j j' s1 s2 _ h1 h2=> ?_,fun j s' hj id o ho=>.inl (r.flt ho),fun j s' hj k b hb i hi=> ?_,fun j s' hj=>⟨Nat.le_refl _,Nat.le_refl _⟩,rfl,Nat.le_refl _,fun q _ _=>r.bd _ (Nat.le_add_right _ _),r.nx,fun q hq=>(by cases hq),fun q hq=>(by cases hq),fun q hq=>(by cases hq),fun q hq=>(by cases hq),fun q hq=>(by cases hq)⟩
  ·obtain ⟨_,rfl⟩:=view hj;exact {r with bd:=fun x hx=>r.bd x (Nat.le_trans hn hx),nx:=Nat.le_trans r.nx hn}
  ·obtain ⟨_,rfl⟩:=view h1;obtain ⟨_,rfl⟩:=view h2;exact ⟨Hle.refl _,fun k b hb=>⟨b,hb⟩⟩
  ·obtain ⟨_,rfl⟩:=view hj;exact .inl (r.lt hb i hi)
 obtain ⟨F',g',φ',tm',h',r',go⟩:=hl rfl D;exact ⟨_,_,_,.drawn go,hk r'⟩
end
section
variable {F F':Hf} {g g':Gb} {B:Bs} {φ:Nat->List Nat} {s s' s1:LS} {tm:Tf} {h:Hs} {hp:Hf} {E:Env} {nt:Nat} {all l:List Oper}
abbrev Ob:=AV×AV
def cz:List Ob->Prop
 | []=>True
 |p::l=>p.1=p.2/\cz l
def Ll:List Ob->List AV
 | []=> []
 |p::l=>p.1::Ll l
def JB:List Ob->List AV
 | []=> []
 |p::l=>p.2::JB l
theorem Kr:∀{l:List Ob},Ll l=JB l->cz l
 | [],_=>trivial
 |p::l,h=>by
  have h:p.1::Ll l=p.2::JB l:=h;injection h with h1 h2
  exact ⟨h1,Kr h2⟩
theorem jG:∀{l m:List Ob},cz (l++m)->cz l/\cz m
 | [],_,h=>⟨trivial,h⟩
 |p::l,m,h=>by
  obtain ⟨h1,h2⟩:=h;obtain ⟨h3,h4⟩:=jG h2;exact ⟨⟨h1,h3⟩,h4⟩
def Gv (K:Nat):List (Nat×AV)->Bool
 | []=>true
 |p::l=>sel (ep K (bR p.2)) false (Gv K l)
def xF (K:Nat):List (Nat×Bx)->Bool
 | []=>true
 |p::l=>sel (Nat.beq p.1 K) (xF K l) (sel (ep K p.2.keys) false (xF K l))
theorem DY {K:Nat} {l:List Nat} (h:ep K l=false):K∉l:=fun hm=>by
 rw[(l3 K l).2 hm] at h;cases h
theorem Lm {K:Nat}:∀{ts:List (Nat×AV)},Gv K ts=true->∀t x,lk t ts=some x->K∉bR x
 | [],_,t,x,hx=>by cases hx
 |(k,y)::l,hf,t,x,hx=>by
  have hf:sel (ep K (bR y)) false (Gv K l)=true:=hf;rw[bh] at hx;rw[aA] at hf;split at hf
  ·cases hf
  ·rename_i hm;split at hx
   ·cases hx;exact DY (by simpa using hm)
   ·exact Lm hf t x hx
theorem zX {K:Nat}:∀{bs:List (Nat×Bx)},xF K bs=true->∀k b,k≠K->lk k bs=some b->K∉b.keys
 | [],_,k,b,_,hx=>by cases hx
 |p::l,hf,k,b,hne,hx=>by
  obtain ⟨k',b'⟩:=p;have hf:sel (Nat.beq k' K) (xF K l) (sel (ep K b'.keys) false (xF K l))=true:=hf;rw[bh] at hx;rw[aA] at hf;split at hf
  ·rename_i he;have he:k'=K:=(beq_iff _ _).1 he;rw[if_neg (fun e=>hne (e.trans he))] at hx
   exact zX hf k b hne hx
  ·rw[aA] at hf;split at hf
   ·cases hf
   ·rename_i hm;split at hx
    ·cases hx;exact DY (by simpa using hm)
    ·exact zX hf k b hne hx
def iy (pks:List Nat) (s:LS) (K:Nat):Bool:=sel (ep K pks) false (sel (Gv K s.ts) (xF K s.bs) false)
theorem jH {pks:List Nat} {K:Nat} (hB:BOK pks B) (hf:iy pks s K=true):s.free K/\B.pk K=false:=by
 unfold iy at hf;rw[aA] at hf;split at hf
 ·cases hf
 ·rename_i h1;rw[aA] at hf;split at hf
  ·rename_i h2;exact ⟨⟨Lm h2,zX hf⟩,hB K (by simpa using h1)⟩
  ·cases hf
def Rq (i:TI) (ok:Bool):Option AV:=sel ok (ai (gI i (eC i.zero) 0) fun z=>some (.tup [z,.bool false])) none
def xQ (t:TypeId) (i:TI) (ok:Bool) (x:AV):Option AV:=
 match x with
 | .ifc t2 u=>sel (Nat.beq t2 t) (some (okM ok u true)) (Rq i ok)
 | .cN=>Rq i ok
 |_=>none
theorem Pa {i:TI} {ok:Bool} {x:AV} (h:Rq i ok=some x):∃u,uJ i ok=some u/\VA F g u x:=by
 obtain ⟨h1,h⟩:=ar h;subst h1;obtain ⟨z,hz,h⟩:=ae h;cases h;obtain ⟨u,u1,u2⟩:=j8 (jJ (F:=F) (g:=g) i.zero) hz;exact ⟨.tup [u,.bool false],by show ai (cP i i.zero 0) (fun z=>some (SV.tup [z,.bool false]))=_;rw[u1];rfl,.tup (.cons u2 (.cons (.bool false) .nil))⟩
theorem XZ {t:TypeId} {i:TI} {ok:Bool} {v:SV} {x y:AV} (hv:VA F g v x) (h:xQ t i ok x=some y):∃u,asserted v t i ok=some u/\VA F g u y:=by
 unfold xQ at h;split at h
 ·rename_i t2 u;cases hv with
  | @ifc _ _ v' _ hv=>
  rw[aA] at h;split at h
  ·rename_i he;cases h;refine ⟨okV ok v' true,?_,Ko hv⟩;show sel (Nat.beq t2 t) (some (okV ok v' true)) (uJ i ok)=_;rw[he]
  ·rename_i he;obtain ⟨w,w1,w2⟩:=Pa (F:=F) (g:=g) h;refine ⟨w,?_,w2⟩;show sel (Nat.beq t2 t) (some (okV ok v' true)) (uJ i ok)=_;cases hb:Nat.beq t2 t with
   |true=>exact absurd hb he
   |false=>exact w1
 ·cases hv;exact Pa h
 ·cases h
theorem W0 {a:Operand} {xt t:TypeId} {ok:Bool} {i:TI} {x y:AV} (hi:E.ty.get t=some i) (hd:nW i.desc=false) (ha:aK s.ts a=x) (hx:xQ t i ok x=some y):aO E B (.typeAssert a xt t ok) s s y none:=aO.un (f:=fun _=>qv E t ok) (fun _ _ _=>rfl) ha (fun e=>by subst e;cases hx) fun {F g φ tm h v} r hv=>by
 obtain ⟨u,u1,u2⟩:=XZ hv hx;refine ⟨u,?_,u2⟩;show ai (E.ty.get t) (fun i=>sel (nW i.desc) none (same (asserted v t i ok)))=_
 rw[hi];show sel (nW i.desc) none (same (asserted v t i ok))=_;rw[hd,u1];rfl
def arrE:UD->Option (Nat×TypeId)
 | .array n e=>some (n,e)
 |_=>none
theorem X0 {d:UD} {q:Nat×TypeId} (h:arrE d=some q):d= .array q.1 q.2:=by
 cases d<;>first|(cases h;done)|(cases h;rfl)
def KQ (E:Env) (t:TypeId) (x y:AV):Option AV:=
 match x,y with
 | .agg cs,.int _ (.ofNat k)=>ai (E.ty.get t) fun i=>ai (arrE i.desc) fun q=>ai (E.ty.get q.2) fun ie=>sel (Nat.ble (Nat.succ k) q.1) (gI ie cs (Nat.mul k ie.size)) none
 |_,_=>none
theorem NG {t:TypeId} {a ix:Operand} {x y z:AV} (ha:aK s.ts a=x) (hix:aK s.ts ix=y) (hx:KQ E t x y=some z):aO E B (.index t a ix) s s z none:=by
 unfold KQ at hx;split at hx
 ·rename_i cs kk k;obtain ⟨i,hi,hx⟩:=ae hx;obtain ⟨q,hq,hx⟩:=ae hx;obtain ⟨ie,hie,hx⟩:=ae hx;obtain ⟨hk,hx⟩:=ar hx;refine aO.bi (f:=fun _ v u=>ai (fu u) fun k=>j9 E t k v) (fun _ _ _=>rfl) ha (by simp) hix (by simp) fun {F g φ tm h v w} r hv hw=> ?_
  cases hv with
  |agg hv=>
  cases hw;obtain ⟨u,u1,u2⟩:=j8 hv hx;refine ⟨u,?_,u2⟩;show j9 E t k _=_;unfold j9;rw[cK hi,X0 hq];show aC (some _) (E.ty.get q.2) (fun cs ie=>sel (Nat.ble (Nat.succ k) q.1) (same (cP ie cs (Nat.mul k ie.size))) none)=_
  rw[mf rfl hie,hk,u1];rfl
 ·cases hx
abbrev Res:=LS×AV×WK×List Ob
def eO (E:Env) (B:Bs) (op:Op) (s:LS) (r:Res):Prop:=cz r.2.2.2->aO E B op s r.1 r.2.1 r.2.2.1
def ndf (x:AV):Option AV:=sel (qd x) none (some x)
theorem nm {x y:AV} (h:ndf x=some y):x=y/\x≠ .undef:=by
 unfold ndf at h;cases hx:qd x with
 |true=>rw[hx] at h;cases h
 |false=>rw[hx] at h;cases h;exact ⟨rfl,Bt hx⟩
def J2 (E:Env) (s:LS) (op:Op):Option AV:=
 match op with
 | .move a=>ndf (aK s.ts a)
 | .assign a=>ndf (aK s.ts a)
 | .pick c a b=>(match aK s.ts c with| .bool t=>ndf (aK s.ts (sel t a b))|_=>none)
 | .nilCheck a=>sel (ado (aK s.ts a)) (some (aK s.ts a)) none
 | .load t a=>ai (E.ty.get t) fun i=>Gl i s.bs (aK s.ts a)
 | .fieldAddr t a f=>ai (tC E t f) fun p=>XF p (aK s.ts a)
 | .field t a f=>ai (tC E t f) fun p=>(match aK s.ts a with| .agg cs=>gI p.2 cs p.1|_=>none)
 | .extract a i=>(match aK s.ts a with| .tup xs=>xs[i]? |_=>none)
 | .binOp op t a b _=>ai (ndf (aK s.ts b)) fun y=>R7 E op t a b (aK s.ts a) y
 | .unOp op _ a=>unL op (aK s.ts a)
 | .convert src dst a=>aC (E.ty.get src) (E.ty.get dst) fun _ i2=>GI i2.desc (aK s.ts a)
 | .makeInterface t a=>ai (E.ty.get t) fun i=>sel (nW i.desc) none (ai (ndf (aK s.ts a)) fun x=>some (.ifc t x))
 | .makeFunc (.func f) a c=>sel (fg (gh s.ts a.toList)) (sel (fg (gh s.ts c.toList)) (some (.fn f (gh s.ts a.toList) (gh s.ts c.toList))) none) none
 | .build t parts=>aC (E.ty.get t) (tj s.ts parts.toList) fun i m=>ai (LU E (eC i.zero) m i.desc) fun ys=>some (.agg ys)
 | .index t a ix=>KQ E t (aK s.ts a) (aK s.ts ix)
 | .typeAssert a _ t ok=>ai (E.ty.get t) fun i=>sel (nW i.desc) none (xQ t i ok (aK s.ts a))
 |_=>none
theorem VF {op:Op} {x:AV} (hx:J2 E s op=some x):aO E B op s s x none:=by
 unfold J2 at hx;split at hx
 ·obtain ⟨h1,h2⟩:=nm hx;subst h1;exact aeI rfl h2
 ·obtain ⟨h1,h2⟩:=nm hx;subst h1;exact WZ rfl h2
 ·split at hx
  ·rename_i hc;obtain ⟨h1,h2⟩:=nm hx;subst h1;exact aeG hc rfl h2
  ·cases hx
 ·obtain ⟨h1,hx⟩:=ar hx;cases hx;exact NA rfl h1
 ·obtain ⟨i,hi,hx⟩:=ae hx;exact aeJ hi rfl hx
 ·obtain ⟨i,hi,hx⟩:=ae hx;exact Kn hi rfl hx
 ·obtain ⟨i,hi,hx⟩:=ae hx;split at hx
  ·rename_i ha;exact Y3 hi ha hx
  ·cases hx
 ·split at hx
  ·rename_i ha;exact Qp ha hx
  ·cases hx
 ·obtain ⟨y,hy,hx⟩:=ae hx;obtain ⟨h1,h2⟩:=nm hy;subst h1;exact agu rfl rfl h2 hx
 ·exact aiv rfl hx
 ·obtain ⟨i,i2,h1,h2,hx⟩:=av hx;exact aeM h1 h2 rfl hx
 ·obtain ⟨i,hi,hx⟩:=ae hx;rw[aA] at hx;split at hx
  ·cases hx
  ·rename_i hd;obtain ⟨y,hy,hx⟩:=ae hx;obtain ⟨h1,h2⟩:=nm hy;subst h1;cases hx;exact agq hi (by simpa using hd) rfl h2
 ·obtain ⟨h1,hx⟩:=ar hx;obtain ⟨h2,hx⟩:=ar hx;cases hx;exact aeK rfl h1 rfl h2
 ·obtain ⟨i,m,h1,h2,hx⟩:=av hx;obtain ⟨ys,h3,hx⟩:=ae hx;cases hx;exact Y4 h1 h2 h3
 ·exact NG rfl rfl hx
 ·obtain ⟨i,hi,hx⟩:=ae hx;rw[aA] at hx;split at hx
  ·cases hx
  ·rename_i hd;exact W0 hi (by simpa using hd) rfl hx
 ·cases hx
def vQ (E:Env) (s:LS) (K:Nat) (op:Op):Option (Bx×AV):=
 match op with
 | .box e a=>ai (jh (aK s.ts a)) fun xs=>sel (ep K (cM xs)) none (some (.flat e xs,.loc K 0))
 | .alloc e=>ai (E.ty.get e) fun i=>some (.flat e (eC i.zero),.loc K 0)
 | .buildSlice t len parts=>aC (gm E t) (tj s.ts parts.toList) fun p m=>sel (dq p.2&&Nat.ble (Nat.mul len p.2.size) 16777216) (ai (uI (jx p.2.size) (tY (eC p.2.zero) len) m) fun ys=>sel (cM ys).isEmpty (some (.rows false p.1 p.2.size (mV p.2.size len ys),.ms K p.2.size 0 len)) none) none
 | .makeMap _ none=>some (.map [],.mp K)
 | .range t a=>ai (E.ty.get t) fun i=>sel (ow i.desc) (match aK s.ts a with| .str b=>some (.iter b 0,.it K)|_=>none) none
 |_=>none
theorem E9 {op:Op} {K:Nat} {p:Bx×AV} (hk:s.free K) (hp:B.pk K=false) (hx:vQ E s K op=some p):aO E B op s (s.set K p.1) p.2 (some (K,true)):=by
 unfold vQ at hx;split at hx
 ·obtain ⟨xs,h1,hx⟩:=ae hx;rw[aA] at hx;split at hx
  ·cases hx
  ·rename_i hm;cases hx;exact agt rfl h1 hk hp (DY (by simpa using hm))
 ·obtain ⟨i,h1,hx⟩:=ae hx;cases hx;exact Y5 h1 hk hp
 ·obtain ⟨q,m,h1,h2,hx⟩:=av hx;obtain ⟨h3,hx⟩:=ar hx;obtain ⟨ys,h4,hx⟩:=ae hx;obtain ⟨h5,hx⟩:=ar hx;cases hx;exact FW h1 h3 h2 h4 hk hp h5
 ·cases hx;exact Qm hk hp
 ·obtain ⟨i,h1,hx⟩:=ae hx;obtain ⟨h2,hx⟩:=ar hx;split at hx
  ·rename_i ha;cases hx;exact Y1 h1 h2 ha hk hp
  ·cases hx
 ·cases hx
def J1 (E:Env) (s:LS) (op:Op):Option (Nat×Bx):=
 match op with
 | .store t a c=>ai (E.ty.get t) fun i=>(match aK s.ts a with
  | .loc K off=>ai (jh (aK s.ts c)) fun xs=>(match lk K s.bs with
   |some (.flat e cs)=>sel (Nat.beq xs.length i.size&&Nat.ble (Nat.add off xs.length) cs.length) (some (K,.flat e (cq cs off xs))) none
   |_=>none)
  |_=>none)
 |_=>none
theorem VE {op:Op} {p:Nat×Bx} (hx:J1 E s op=some p):aO E B op s (s.set p.1 p.2) (.tup []) (some (p.1,false)):=by
 unfold J1 at hx;split at hx
 ·obtain ⟨i,h1,hx⟩:=ae hx;split at hx
  ·rename_i ha;obtain ⟨xs,h2,hx⟩:=ae hx;split at hx
   ·rename_i hb;obtain ⟨h3,hx⟩:=ar hx;cases hx;exact Y0 h1 ha rfl h2 hb h3
   ·cases hx
  ·cases hx
 ·cases hx
def J0 (E:Env) (s:LS) (op:Op):Option AV:=
 match op with
 | .call c=>(match c.callee with
  | .builtin .len=>(match c.args.toList,c.argTypes.toList with
   | [a],[t]=>ai (E.ty.get t) fun i=>ai (QD s.bs i.desc (aK s.ts a)) fun n=>some (.int .i64 n)
   |_,_=>none)
  | .builtin .min=>(match c.args.toList with
   | [a,b]=>Zb false (aK s.ts a) (aK s.ts b)
   |_=>none)
  | .builtin .max=>(match c.args.toList with
   | [a,b]=>Zb true (aK s.ts a) (aK s.ts b)
   |_=>none)
  |_=>none)
 |_=>none
theorem VD {op:Op} {x:AV} (hx:J0 E s op=some x):aO E B op s s x none:=by
 unfold J0 at hx;split at hx
 ·split at hx
  ·rename_i iL;split at hx
   ·rename_i ha ht;obtain ⟨i,h1,hx⟩:=ae hx;obtain ⟨n,h2,hx⟩:=ae hx;cases hx;exact agp iL ha ht h1 rfl h2
   ·cases hx
  ·rename_i iL;split at hx
   ·rename_i ha;exact WX (mx:=false) iL ha rfl rfl hx
   ·cases hx
  ·rename_i iL;split at hx
   ·rename_i ha;exact WX (mx:=true) iL ha rfl rfl hx
   ·cases hx
  ·cases hx
 ·cases hx
def JZ (E:Env) (s:LS) (op:Op):Option Res:=
 match op with
 | .load t a=>ai (E.ty.get t) fun i=>sel (eU i.desc) none (match aK s.ts a with
  | .el K sz j f=>(match lk K s.bs with
   |some (.hole _ sz' _ i0 x)=>sel (Nat.beq sz' sz) (some (s,x,none,[(.loc 0 (Nat.add (Nat.mul j sz) f),.loc 0 i0)])) none
   |some (.own _ _ _ _ (some p))=>sel (Nat.beq 1 sz) (some (s,p.2,none,[(.loc 0 (Nat.add (Nat.mul j 1) f),.loc 0 p.1)])) none
   |_=>none)
  |_=>none)
 | .store t a c=>ai (E.ty.get t) fun i=>(match aK s.ts a,jh (aK s.ts c) with
  | .el K sz j f,some [x]=>(match lk K s.bs with
   |some (.own e e' s' Q (some p))=>sel (Nat.beq 1 sz&&Nat.beq 1 i.size) (some (s.set K (.own e e' s' Q (some (p.1,x))),.tup [],some (K,false),[(.loc 0 (Nat.add (Nat.mul j 1) f),.loc 0 p.1)])) none
   |_=>none)
  |_,_=>none)
 |_=>none
theorem VC {op:Op} {r:Res} (hr:JZ E s op=some r):eO E B op s r:=by
 intro ho;unfold JZ at hr;split at hr
 ·obtain ⟨i,h1,hr⟩:=ae hr;rw[aA] at hr;split at hr
  ·cases hr
  ·rename_i hg;split at hr
   ·rename_i ha;split at hr
    ·rename_i hb;obtain ⟨h2,hr⟩:=ar hr;cases hr;have e1:=(beq_iff _ _).1 h2;have e2:=ho.1;injection e2 with _ e2
     subst e1;subst e2;exact NC h1 (by simpa using hg) ha hb
    ·rename_i p hb;obtain ⟨h2,hr⟩:=ar hr;cases hr;have e1:=(beq_iff _ _).1 h2;have e2:=ho.1;injection e2 with _ e2
     obtain ⟨p1,p2⟩:=p;have e2:Nat.add (Nat.mul _ 1) _=p1:=e2;subst e1;subst e2;exact Qo h1 (by simpa using hg) ha hb
    ·cases hr
   ·cases hr
 ·obtain ⟨i,h1,hr⟩:=ae hr;split at hr
  ·rename_i ha hx;split at hr
   ·rename_i p hb;obtain ⟨h2,hr⟩:=ar hr;cases hr;rw[Bool.and_eq_true] at h2;have e1:=(beq_iff _ _).1 h2.1;have e2:=ho.1;injection e2 with _ e2
    obtain ⟨p1,p2⟩:=p;have e2:Nat.add (Nat.mul _ 1) _=p1:=e2;subst e1;subst e2;exact Ny h1 ha rfl hx hb h2.2
   ·cases hr
  ·cases hr
 ·cases hr
def om (E:Env) (pks:List Nat) (s:LS) (op:Op) (d:Option Nat):Option Res:=
 match J2 E s op with
 |some x=>some (s,x,none,[])
 |none=>(match J1 E s op with
  |some p=>some (s.set p.1 p.2,.tup [],some (p.1,false),[])
  |none=>(match J0 E s op with
   |some x=>some (s,x,none,[])
   |none=>(match JZ E s op with
    |some r=>some r
    |none=>(match d with
     |some K=>sel (iy pks s K) (ai (vQ E s K op) fun p=>some (s.set K p.1,p.2,some (K,true),[])) none
     |none=>none))))
theorem rJ {pks:List Nat} {op:Op} {d:Option Nat} {r:Res} (hB:BOK pks B) (hr:om E pks s op d=some r):eO E B op s r:=by
 intro ho;unfold om at hr;split at hr
 ·rename_i h1;cases hr;exact VF h1
 ·split at hr
  ·rename_i h1;cases hr;exact VE h1
  ·split at hr
   ·rename_i h1;cases hr;exact VD h1
   ·split at hr
    ·rename_i h1;cases hr;exact VC h1 ho
    ·split at hr
     ·obtain ⟨h1,hr⟩:=ar hr;obtain ⟨p,h2,hr⟩:=ae hr;cases hr;obtain ⟨a,b⟩:=jH hB h1;exact E9 a b h2
     ·cases hr
end
end Go.Sim
end
