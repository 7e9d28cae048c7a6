/- Part. -/
import Derived.Test.YtbnkhmoelnfjoaaGreatP1
import Derived.MapKept
import Derived.RangeFuncCalls
import Derived.Lib.Bytealg
import Derived.Laws.Externs
import Derived.Maps.RangeRun
set_option linter.all false
noncomputable section
namespace Go.bQ
open Go.RowKit Go.MapKept
variable {k x z v:SV} {D:UD} {u u1:Value} {P:Program} {t ty:TypeId} {us:cQ} {new n nt:Nat} {tV mx:Bool} {i:TI} {Y:Type} {tm:Tf} {a:Act} {b:Builtin} {ts:Array TypeId} {aa:aM}
section
variable {E:Env} {g:Gh} {f:Hf} {w:World}
def iC.get:∀{ms:List MapEntry} {xs:jh},iC g ms xs->∀{j:Nat} {x:SV×SV×Nat},xs[j]? =some x->∃m,ms[j]? =some m/\ann g m x
 |_,_,.nil,_,_,h=>by simp at h
 |_,_,.cons hd ht,j,x,h=>by
  cases j with
  |zero=>simp at h;subst h;exact ⟨_,rfl,hd⟩
  |succ j=>simp at h;let ⟨m,a,b⟩:=ht.get h;exact ⟨m,by simpa using a,b⟩
def iC.length:∀{ms:List MapEntry} {xs:jh},iC g ms xs->ms.length=xs.length
 |_,_,.nil=>rfl
 |_,_,.cons _ ht=>by simp[ht.length]
def iC.append:∀{ms ns:List MapEntry} {xs ys:jh},iC g ms xs->iC g ns ys->iC g (ms++ns) (xs++ys)
 |_,_,_,_,.nil,k=>k
 |_,_,_,_,.cons hd ht,k=>.cons hd (ht.append k)
def iC.set:∀{ms:List MapEntry} {xs:jh},iC g ms xs->∀{m:MapEntry} {x:SV×SV×Nat},ann g m x->∀(j:Nat),iC g (ms.set j m) (xs.set j x)
 |_,_,.nil,_,_,_,j=>by simpa using .nil
 |_,_,.cons hd ht,_,_,h,0=>by simpa using .cons h ht
 |_,_,.cons hd ht,_,_,h,j+1=>by simpa using .cons hd (ht.set h j)
def Ni (hl:Fm k D=true) (hd:KN P t D) (hu:VR g u k):∃d,P.underlying t=some d/\IsKey d u/\
  (∀(y:SV) (b:Bool) (u':Value),sameKey k y=some b->VR g u' y->Instr.sameNow d u u'=some b/\(b=true->u'=u)):=by
 cases hu with
 |bool a=>
  obtain rfl:=abo (show Mj D=true from hl);refine ⟨.bool,hd,trivial,λy b u' hs rF=> ?_⟩
  let ⟨p,q,h1,h2,h3⟩:=bc (show bE (pa (.bool a)) (pa y) (λa b=>some (a==b))=some b from hs)
  cases h1;obtain rfl:=vz h2;cases rF;cases h3;exact ⟨rfl,λe=>by
   have:a=q:=by simpa using e
   rw[this]⟩
 | @int k e n he=>
  have hl:(isLit e&&alv k D)=true:=hl;rw[aY] at hl;let ⟨hl1,Cl⟩:=hl;obtain rfl:D= .int k:=by
   cases D with
   |int k'=>rw[nA Cl]
   |_=>cases Cl
  cases e with
  |lit n0=>
   subst he;refine ⟨.int k,hd,rfl,λy b u' hs rF=> ?_⟩
   let ⟨p,h1,h2⟩:=aj (show au (intOf y) (λp=>ay (gu k p.1) (awh (.lit n) p.2) none)=some b from hs)
   let ⟨hk,h3⟩:=aJ h2;have hk:=nA hk;obtain rfl:=rS h1;let ⟨pk,pe⟩:=p;simp only at hk h3 rF;subst hk;cases pe with
   |lit m=>
    cases rF with
    | @int _ _ m' e2=>
     subst e2;cases h3;rw[yM];refine ⟨?_,λe=> ?_⟩
     ·simp only[Instr.sameNow,aF,SI.ev];congr 1
     ·have:n=m':=by simpa using e
      rw[this]
 |str s=>
  obtain rfl:=agw (show zR D=true from hl);refine ⟨.string,hd,trivial,λy b u' hs rF=> ?_⟩
  let ⟨p,q,h1,h2,h3⟩:=bc (show bE (strOf (.str s)) (strOf y) (λa b=>some (Ee a b))=some b from hs)
  cases h1;obtain rfl:=mZ h2;cases rF;cases h3;rw[wI];refine ⟨?_,λe=> ?_⟩
  ·simp only[Instr.sameNow];congr 1;rw[lG,bytes_beq];simp
  ·have:s=q:=by simpa using e
   rw[this]
 |_=>cases hl
def HA {k:SV} {u:Value} {d:TypeDesc} (hk:∀(y:SV) (b:Bool) (u':Value),sameKey k y=some b->VR g u' y->Instr.sameNow d u u'=some b/\(b=true->u'=u)):
  ∀{ms:List MapEntry} {es:jh},iC g ms es->∀(i:Nat) (r:Option (Nat×SV×Nat)),px k es i=some r->
   (r=none/\Instr.findNow d u ms i=some none)\/∃j x m,r=some (i+j,x.2.1,x.2.2)/\es[j]? =some x/\ms[j]? =some m/\m.key=u/\Instr.findNow d u ms i=some (some (i+j,m.val))
 |_,_,.nil,i,r,h=>by cases h;exact .inl ⟨rfl,rfl⟩
 |_,_,.cons (m:=m) (x:=x) (ms:=ms) (xs:=es) hd ht,i,r,h=>by
  unfold px at h;cases hs:sameKey k x.1 with
  |none=>rw[hs] at h;cases h
  |some b=>
   rw[hs] at h;let ⟨h1,h2⟩:=hk x.1 b m.key hs hd.1;cases b with
   |true=>
    cases h;exact .inr ⟨0,x,m,rfl,rfl,rfl,h2 rfl,by simp[Instr.findNow,h1]⟩
   |false=>
    rcases HA hk ht (i+1) r h with ⟨q1,q2⟩|⟨j,y,m',q1,q2,q3,q4,q5⟩
    ·exact .inl ⟨q1,by simp[Instr.findNow,h1,q2]⟩
    ·refine .inr ⟨j+1,y,m',by rw[q1];congr 2;omega,by simpa using q2,by simpa using q3,q4,?_⟩
     simp[Instr.findNow,h1,q5];omega
def abe (hE:dP E g) (h:HR g f w) {u2:Value} (h1:VR g u1 x) (h2:VR g u2 k) {ok:Bool} (fZ:sO E f t x k ok=some z):
  ∃r,(Instr.lookup t u1 u2 ok).run E.P w= .ok r w/\VR g r z:=by
 let ⟨i,hi,ho⟩:=aj fZ;let ⟨q,hq,ho⟩:=aj ho;let ⟨ik,ie,hik,hie,ho⟩:=bc ho;let ⟨hl,ho⟩:=aJ ho;let ⟨es,hes,ho⟩:=aj ho;let ⟨r,hr,ho⟩:=aj ho;have ht:=(hE.ty t i hi).desc;rw[JC hq] at ht;have ht:E.P.underlying t=some (.map q.1 q.2):=ht;let ⟨d,hd,alI,PY⟩:=Ni hl (hE.ty _ ik hik).desc h2;let ⟨zv,z1,z2,z3⟩:=Z9 (hE.ty _ ie hie);have main:∀(ms:Array MapEntry),iC g ms.toList es->(Instr.checkKey ms.isEmpty 10000 q.1 u2).run E.P w= .ok () w/\∃a rv,(Instr.findKey q.1 u2 ms.toList).run E.P w= .ok a w/\VR g rv z/\
   ((a=none/\rv=if ok then Value.tuple #[zv,.bool false] else zv)\/∃j v,a=some (j,v)/\rv=if ok then Value.tuple #[v,.bool true] else v):=by
  intro ms hms;refine ⟨run_checkKey (P:=E.P) (w:=w) hd alI ms.isEmpty 9999,?_⟩;rcases HA PY hms 0 r hr with ⟨rfl,q2⟩|⟨j,y,m,rfl,q2,q3,q4,q5⟩
  ·let ⟨zz,hz,ho⟩:=aj (show au (ia ie ie.zero 0) (λz=>some (okV ok z false))=some z from ho)
   cases ho;refine ⟨none,_,run_findKey (P:=E.P) (w:=w) hd q2,?_,.inl ⟨rfl,rfl⟩⟩;have:=akB (g:=g) z2 z3 hz;cases ok
   ·exact this
   ·exact .cm (.cons this (.cons (.bool false) .nil))
  ·let ⟨m',r1,r2⟩:=hms.get q2;rw[q3] at r1;obtain rfl:m=m':=by simpa using r1
   cases (show some (okV ok y.2.1 true)=some z from ho);refine ⟨_,_,run_findKey (P:=E.P) (w:=w) hd q5,?_,.inr ⟨_,_,rfl,rfl⟩⟩;cases ok
   ·exact r2.2.1
   ·exact .cm (.cons r2.2.1 (.cons (.bool true) .nil))
 cases h1 with
 |gL=>
  cases (show some ([]:jh)=some es from hes);let ⟨FD,a,rv,r1,r2,r3⟩:=main #[] .nil;refine ⟨rv,?_,r2⟩;rcases r3 with ⟨rfl,rfl⟩|⟨j,v,rfl,rfl⟩<;>simp only[Instr.lookup,Sem.run_bind,run_underlying ht,Result.andThen_ok,Sem.run_pure,FD,r1,z1]
 | @mp id b o hρ=>
  let ⟨p,hp,hes⟩:=aj (show au (kf (f id)) (λp=>some p.1)=some es from hes)
  cases hes;have hf:=zL hp;let ⟨ms,m1,m2⟩:=(h.at hf hρ).2;let ⟨FD,a,rv,r1,r2,r3⟩:=main ms m2;refine ⟨rv,?_,r2⟩;rcases r3 with ⟨rfl,rfl⟩|⟨j,v,rfl,rfl⟩<;>simp only[Instr.lookup,Sem.run_bind,run_underlying ht,Result.andThen_ok,Sem.run_pure,MapKept.run_getObj_map m1,FD,r1,z1]
 |_=>cases hes
def VH (hE:dP E g) (h:HR g f w) {u2 u3:Value} (h1:VR g u1 x) (h2:VR g u2 k) (h3:VR g u3 v) (fZ:vV E f t x k v=some us):
  ∃w',(Instr.mapUpdate t u1 u2 u3).run E.P w= .ok () w'/\HR g (nQ f us) w'/\Fr g f w g (nQ f us) w':=by
 let ⟨id,cK,ho⟩:=aj fZ;let ⟨i,hi,ho⟩:=aj ho;let ⟨q,hq,ho⟩:=aj ho;let ⟨ik,p,hik,hp,ho⟩:=bc ho;let ⟨hl,ho⟩:=aJ ho;let ⟨r,hr,ho⟩:=aj ho;cases ho;obtain rfl:=VV cK;have ht:=(hE.ty t i hi).desc;rw[JC hq] at ht;have ht:E.P.underlying t=some (.map q.1 q.2):=ht;let ⟨d,hd,alI,PY⟩:=Ni hl (hE.ty _ ik hik).desc h2;have hf:=zL hp;cases h1 with
 | @mp _ b o hρ=>
  let ⟨hb,ms,m1,m2⟩:=h.at hf hρ;have FD:=run_checkKey (P:=E.P) (w:=w) hd alI false 9999;have fin:∀(Fk:Array MapEntry) (Ac:jh) (c':Nat),iC g Fk.toList Ac->HR g (lJ f (id,some (.map Ac c'))) {w with heap:=w.heap.setIfInBounds b (.map Fk c')}/\Fr g f w g (lJ f (id,some (.map Ac c'))) {w with heap:=w.heap.setIfInBounds b (.map Fk c')}:=by
   intro Fk Ac c' he;let ⟨s1,s2⟩:=heap_set (o':=Obj.map Fk c') m1;exact h.write hf hρ (by simp) (λk hk=>s2 k hk) ⟨Fk,s1,he⟩ rfl rfl rfl
  rcases HA PY m2 0 r hr with ⟨rfl,q2⟩|⟨j,y,m,rfl,q2,q3,q4,q5⟩
  ·have hfk:=run_findKey (P:=E.P) (w:=w) hd q2;refine ⟨_,?_,fin (ms.push {key:=u2,val:=u3,born:=p.2}) (p.1++ [(k,v,p.2)]) (p.2+1) (by rw[Array.toList_push];exact m2.append (.cons ⟨h2,h3,rfl⟩ .nil))⟩
   simp only[Instr.mapUpdate,Sem.run_bind,run_underlying ht,Result.andThen_ok,MapKept.run_getObj_map m1,FD,hfk];exact run_setObj_map _ m1
  ·have hfk:=run_findKey (P:=E.P) (w:=w) hd q5;let ⟨m',r1,r2⟩:=m2.get q2;rw[q3] at r1;obtain rfl:m=m':=by simpa using r1
   rw[cE] at hfk;have hmj:ms[j]? =some m:=by simpa using q3
   have hold:(((ms[j]?).map (·.key)).getD u2)=u2:=by rw[hmj];simpa using q4
   have oC:(Instr.keyThatStays u2 u2).run E.P w= .ok u2 w:=by simp[Instr.keyThatStays,sameBits_self alI]
   refine ⟨_,?_,fin (ms.modify j λe=>{e with key:=u2,val:=u3}) (p.1.set (0+j) (k,v,y.2.2)) p.2 ?_⟩
   ·simp only[Instr.mapUpdate,Sem.run_bind,run_underlying ht,Result.andThen_ok,MapKept.run_getObj_map m1,FD,hfk,hold,oC];exact run_setObj_map _ m1
   ·have:(ms.modify j λe=>{e with key:=u2,val:=u3}).toList=ms.toList.set j {m with key:=u2,val:=u3}:=by
     apply wC;intro n;rw[mL,IN,EG];by_cases hn:j=n
     ·subst hn;have bD:j<ms.size:=(oK.1 hmj).1;have j5:ms[j]=m:=(oK.1 hmj).2;simp[bD,j5]
     ·simp[hn]
    rw[this,cE];exact m2.set (m:={m with key:=u2,val:=u3}) (x:=(k,v,y.2.2)) ⟨h2,h3,r2.2.2⟩ j
end
section
variable {E:Env} {g:Gh} {f:Hf} {w:World}
def aaI (hE:dP E g) (h:HR g f w) (hn:g.Z new=none) (hu:VR g u x) (fZ:wM E f new t x=some (v,us)):
  ∃r w' g',(Instr.range t u).run E.P w= .ok r w'/\gS g f w v us new r g' w':=by
 let ⟨i,hi,ho⟩:=aj fZ;let ⟨o,Iy,ho⟩:=aj ho;cases ho;have ht:=(hE.ty t i hi).desc;have fin:∀(ob:Obj),(Instr.range t u).run E.P w= .ok (.pointer (some ⟨w.heap.size,0,none⟩)) (w.alloc ob)->OR (g.bind new (w.heap.size,0) 0 0) (w.alloc ob) new w.heap.size 0 o->
   ∃r w' g',(Instr.range t u).run E.P w= .ok r w'/\gS g f w (.ptr new 0) [(new,some o)] new r g' w':=by
  intro ob ky vt;let ⟨r1,r2⟩:=h.alloc hn (o':=o) (w':=w.alloc ob) (l:=0) (e:=0) rfl vt;exact ⟨.pointer (some ⟨w.heap.size,0,none⟩),_,_,ky,⟨.ptr (o:=0) (off:=0) (Gh.je _ _ _ _ _),r1,r2,λid bY=>Gh.lV _ _ _ _ bY,λyQ=>by cases yQ⟩⟩
 generalize i.desc=D at ht Iy;cases D with
 |string=>
  have ht:E.P.underlying t=some .string:=ht;let ⟨s,hs,Iy⟩:=aj (show au (strOf x) (λs=>some (SO.pL s 0))=some o from Iy)
  cases Iy;obtain rfl:=mZ hs;cases hu;refine fin (.stringIter s 0) ?_ ⟨rfl,heap_alloc_new w _⟩;simp[Instr.range,run_underlying ht,newObj];rfl
 |map kt et=>
  have ht:E.P.underlying t=some (.map kt et):=ht;cases hu with
  |gL=>
   cases (show some (SO.mapIter none 0 [] 0)=some o from Iy);refine fin (.mapIter none 0 #[] 0) ?_ ⟨rfl,none,#[],heap_alloc_new w _,rfl,rfl⟩;simp[Instr.range,run_underlying ht,newObj];rfl
  | @mp id b c hρ=>
   let ⟨p,hp,Iy⟩:=aj (show au (kf (f id)) (λp=>some (SO.mapIter (some id) p.2 [] p.2))=some o from Iy)
   cases Iy;have hf:=zL hp;let ⟨hb,ms,m1,m2⟩:=h.at hf hρ;have bY:id≠new:=λe=>by subst e;rw[hn] at hρ;cases hρ
   refine fin (.mapIter (some b) p.2 #[] p.2) ?_ ⟨rfl,some b,#[],heap_alloc_new w _,rfl,b,c,rfl,by rw[Gh.lV _ _ _ _ bY];exact hρ⟩
   simp[Instr.range,run_underlying ht,newObj,MapKept.run_getObj_map m1];rfl
  |_=>cases Iy
 |_=>cases Iy
def aga (hE:dP E g) (h:HR g f w) (hu:VR g u x) (fZ:xk f tV x=some (v,us)):
  ∃r w',(Instr.next u tV ty).run E.P w= .ok r w'/\gS g f w v us new r g w':=by
 let ⟨hs,Iy⟩:=aJ fZ;subst hs;let ⟨id,cK,ho2⟩:=aj Iy;let ⟨p,hp,ho3⟩:=aj ho2;let ⟨q,hq,hid2⟩:=aj cK;let ⟨hz,hid3⟩:=aJ hid2;cases hid3;have hz:=(beq_iff _ _).1 hz;obtain rfl:=om hq;have hf:=PH hp;cases hu with
 | @ptr _ _ b o hρ=>
  obtain ⟨hb,rfl,m1⟩:=h.at hf hρ;rw[hz];have j5:(getObj b).run E.P w= .ok (.stringIter p.1 p.2) w:=by simp[getObj,Sem.run,m1]
  have ho:some (pQ q.1 p)=some (v,us):=ho3;unfold pQ at ho;rw[bk] at ho;split at ho
  ·rename_i bD;have bD:p.2<p.1.size:=(cN _ _).1 bD;cases ho;let ⟨s1,s2⟩:=heap_set (o':=Obj.stringIter p.1 (p.2+(Utf8.decode p.1 p.2).2)) m1;let ⟨t1,t2⟩:=h.write (o':=.pL p.1 (p.2+(Utf8.decode p.1 p.2).2)) (w':={w with heap:=w.heap.setIfInBounds b (.stringIter p.1 (p.2+(Utf8.decode p.1 p.2).2))}) hf hρ (by simp) (λk hk=>s2 k hk) ⟨rfl,s1⟩ rfl rfl rfl
   refine ⟨.tuple #[.bool true,goInt p.2,.int .i32 (Utf8.decode p.1 p.2).1],{w with heap:=w.heap.setIfInBounds b (.stringIter p.1 (p.2+(Utf8.decode p.1 p.2).2))},?_,⟨?_,t1,t2,λ_ _=>rfl,λ_=>rfl⟩⟩
   ·simp only[nu,Instr.next,Sem.run_bind,j5,Result.andThen_ok,ax bD];simp[setObj,Sem.run,m1]
   ·exact .cm (.cons (.bool true) (.cons (.int _ _ (by simp[SI.ev])) (.cons (.int _ _ (by simp[SI.ev])) .nil)))
  ·rename_i bD;have bD:¬p.2<p.1.size:=λe=>bD ((cN _ _).2 e)
   cases ho;refine ⟨.tuple #[.bool false],w,?_,gS.same h (.cm (.cons (.bool false) .nil))⟩;simp only[nu,Instr.next,Sem.run_bind,j5,Result.andThen_ok,aA bD,Sem.run_pure]
def apw (hE:dP E g) (h:HR g f w) (hi:E.ty.get t=some i) (hu:VR g u x) (fZ:yK i.desc x f=some z):∃r,(Builtin.len_ #[t] ty #[u]).run E.P w= .ok r w/\VR g r z:=by
 have hd:=(hE.ty t i hi).desc;have lit:∀n:Nat,VR g (goInt n) (uS n):=λn=>.int _ _ (by simp[SI.ev])
 generalize i.desc=D at hd fZ;cases D with
 |string=>
  let ⟨s,hs,ho⟩:=aj (show au (strOf x) (λs=>some (uS s.size))=some z from fZ)
  cases ho;obtain rfl:=mZ hs;cases hu;exact ⟨goInt s.size,by simp[Builtin.len_,run_underlying (show E.P.underlying t=some .string from hd)],lit _⟩
 |slice e=>
  let ⟨n,hn,ho⟩:=aj (show au (yJ x) (λn=>some (uS n))=some z from fZ)
  cases ho;have hd:E.P.underlying t=some (.slice e):=hd;rcases V1 hn with ⟨id,off,c,rfl⟩|⟨rfl,rfl⟩|⟨rfl,rfl⟩<;>cases hu<;>exact ⟨goInt _,by simp[Builtin.len_,run_underlying hd],lit _⟩
 |array n e=>
  cases (show some (uS n)=some z from fZ);have hd:E.P.underlying t=some (.array n e):=hd;exact ⟨goInt n,by simp[Builtin.len_,run_underlying hd],lit _⟩
 |map k e=>
  have hd:E.P.underlying t=some (.map k e):=hd;cases hu with
  |gL=>
   cases (show some (uS 0)=some z from fZ);exact ⟨goInt 0,by simp[Builtin.len_,run_underlying hd],lit _⟩
  | @mp id b o hρ=>
   let ⟨p,hp,ho⟩:=aj (show au (kf (f id)) (λp=>some (uS p.1.length))=some z from fZ)
   cases ho;let ⟨hb,ms,m1,m2⟩:=h.at (zL hp) hρ;refine ⟨goInt ms.size,by simp[Builtin.len_,run_underlying hd,MapKept.run_getObj_map m1],?_⟩
   have:=m2.length;rw[<-this];exact lit _
  |_=>cases fZ
 |_=>cases fZ
def VW (hE:dP E g) {y:SV} {v:Value} (hu:VR g u x) (hv:VR g v y) (fZ:NU E mx x y=some z) (ts:Array TypeId) (ty:TypeId):
  ∃r,((if mx then Builtin.max_ ts ty #[u,v] else Builtin.min_ ts ty #[u,v])).run E.P w= .ok r w/\VR g r z:=by
 let ⟨a,b,h1,h2,ho⟩:=bc fZ;let ⟨r,hr,ho⟩:=aj ho;cases ho;obtain rfl:=rS h1;obtain rfl:=rS h2;cases hu with|int _ _ e1=>cases hv with|int _ _ e2=>
 subst e1;subst e2;cases mx with
 |true=>
  have:=yH hE (show Dq E a.2 b.2=some r from hr);refine ⟨.int a.1 (if b.2.ev g.η>a.2.ev g.η then b.2.ev g.η else a.2.ev g.η),by simp[Builtin.max_,Builtin.max2],.int _ _ ?_⟩
  cases r with
  |true=>rw[ax (by simpa using this)]
  |false=>rw[aA (by simpa using this)]
 |false=>
  have:=yH hE (show Dq E b.2 a.2=some r from hr);refine ⟨.int a.1 (if b.2.ev g.η<a.2.ev g.η then b.2.ev g.η else a.2.ev g.η),by simp[Builtin.min_,Builtin.min2],.int _ _ ?_⟩
  cases r with
  |true=>rw[ax (by simpa using this)]
  |false=>rw[aA (by simpa using this)]
def Ab {l:List Y} {p:Y×Y} (h:uY l=some p):l= [p.1,p.2]:=by
 unfold uY at h;split at h
 ·cases h;rfl
 ·cases h
def aHw (P:Program) (o:Oper) (a:Act) (w:World) (v:Value) (w':World):Prop:=
 (execOp a.eval o).run P w= .ok (.value v) w'\/((execOp a.eval o).run P w= .ok .skip w'/\v=undef)
def Jy {k:IntKind} (h:VR g u (.int k (.lit (.ofNat n)))):u= .int k (.ofNat n):=by
 cases h with
 |int _ _ e=>rw[e];rfl
def Oi {xs:Array Y} {l:List Y} (h:xs.toList=l):xs=l.toArray:=by apply Bq;simpa using h
def LC {us:eH} {y:SV} (h:kH g us [x,y]):∃u v,us= [u,v]/\VR g u x/\VR g v y:=by
 cases h with
 |cons h1 h=>cases h with
  |cons h2 h=>cases h;exact ⟨_,_,rfl,h1,h2⟩
def ays {us:eH} (h:kH g us [x]):∃u,us= [u]/\VR g u x:=by
 cases h with
 |cons h1 h=>cases h;exact ⟨_,rfl,h1⟩
def Ur (hE:dP E g) (h:HR g f w) (dQ:FR g nt tm a.tmps) (hn:g.Z new=none) {args:Array Operand} (has:eI tm args.toList=some aa) (ty:TypeId) (cs:Array Bool) (fZ:oz E f new b aa ts.toList=some (v,us)):∃r w' g',(builtin b ts ty cs (args.map a.eval)).run E.P w= .ok (.value r) w'/\gS g f w v us new r g' w':=by
 have rp:=zp dQ has;have rX:args.map a.eval=(args.toList.map a.eval).toArray:=Oi (by simp)
 rw[rX];generalize args.toList.map a.eval=vs at rp;cases b with
 |len=>
  let ⟨x,t,h1,h2,ho⟩:=bc (show bE aa.head? ts.toList.head? (λx t=>ay (Nat.beq aa.length 1) (au (E.ty.get t) λi=>same (yK i.desc x f)) none)=some (v,us) from fZ)
  let ⟨hl,ho⟩:=aJ ho;let ⟨i,hi,ho⟩:=aj ho;let ⟨z,hz,ho⟩:=aj ho;cases ho;have hl:=(beq_iff _ _).1 hl;obtain rfl:aa= [x]:=by
   cases aa with
   |nil=>simp at hl
   |cons y l=>simp at hl h1;simp[hl,h1]
  obtain ⟨u,rfl,hu⟩:=ays rp;let ⟨r,r1,r2⟩:=apw (w:=w) (ty:=ty) hE h hi hu hz;refine ⟨r,w,g,?_,gS.same h r2⟩;have ht:ts[0]? =some t:=by
   rw[<-mL];cases yb:ts.toList with
   |nil=>rw[yb] at h2;simp at h2
   |cons t' l=>rw[yb] at h2;simpa using h2
  have hl1:(Builtin.len_ ts ty #[u]).run E.P w=(Builtin.len_ #[t] ty #[u]).run E.P w:=by simp only[Builtin.len_,ht];rfl
  simp only[builtin,Sem.run_bind];rw[hl1,r1];rfl
 |append=>
  let ⟨p,q,h1,h2,ho⟩:=bc (show bE (uY aa) (uY ts.toList) (λp q=>au (E.ty.get q.2) λi=>ay (vY i.desc) (mC E f new q.1 p.1 p.2) none)=some (v,us) from fZ)
  let ⟨i,hi,ho⟩:=aj ho;let ⟨hr,ho⟩:=aJ ho;obtain rfl:=Ab h1;obtain rfl:=Oi (Ab h2);obtain ⟨u1,u2,rfl,k1,k2⟩:=LC rp;let ⟨r,w',g',r1,r2⟩:=acS (ty:=ty) hE h hn k1 k2 hi hr ho;exact ⟨r,w',g',by simp only[builtin,Sem.run_bind];rw[r1];rfl,r2⟩
 |min=>
  let ⟨p,h1,ho⟩:=aj (show au (uY aa) (λp=>same (NU E false p.1 p.2))=some (v,us) from fZ)
  let ⟨z,hz,ho⟩:=aj ho;cases ho;obtain rfl:=Ab h1;obtain ⟨u1,u2,rfl,k1,k2⟩:=LC rp;let ⟨r,r1,r2⟩:=VW (w:=w) hE k1 k2 hz ts ty;refine ⟨r,w,g,?_,gS.same h r2⟩;simp only[aK,aG] at r1;simp only[builtin,Sem.run_bind];rw[r1];rfl
 |max=>
  let ⟨p,h1,ho⟩:=aj (show au (uY aa) (λp=>same (NU E true p.1 p.2))=some (v,us) from fZ)
  let ⟨z,hz,ho⟩:=aj ho;cases ho;obtain rfl:=Ab h1;obtain ⟨u1,u2,rfl,k1,k2⟩:=LC rp;let ⟨r,r1,r2⟩:=VW (w:=w) hE k1 k2 hz ts ty;refine ⟨r,w,g,?_,gS.same h r2⟩;simp only[aF] at r1;simp only[builtin,Sem.run_bind];rw[r1];rfl
 |_=>cases fZ
end
end Go.bQ
namespace Go.bQ
open Go.RowKit
variable {tm:cq} {a:Act} {new m i nx oA j:Nat} {o:Oper} {v x k s fv y:SV} {us:cQ} {q:Nat×Nat} {t e:TypeId} {tV:Bool} {xs aa:aM} {D:Nat->Bool} {r:List Oc} {all l l0:bS} {T1:Tf} {ro:da} {H H' F F':Hf} {P:Program} {u:Value} {K:Act->World->Prop} {g':Gh} {w':World} {c:Call} {KE:Ending->World->Prop} {Q:Exit->Act->World->Prop} {S:Nat->Prop} {cY:Array Bool} {need:Nat->Nat->Prop} {O:Type} {out:Out} {h:Hs} {kp:SV->Hs->Out} {ms:List MapEntry} {es:jh} {seen:aI} {sa:Array Nat} {rec:j7->Out} {rs:List Rs} {fo:dJ} {ao:Option aM}
section
variable {E:Env} {g:Gh} {f:Hf} {w:World}
def asZ (hE:dP E g) (h:HR g f w) {nt:Nat} {tm:Tf} (dQ:FR g nt tm a.tmps) (hn:g.Z new=none) (fZ:oO E o.op tm f new=some (v,us)):
  ∃r w' g',aHw E.P o a w r w'/\gS g f w v us new r g' w':=by
 let ⟨dst,op,ty,pos,after,guard⟩:=o;have val:=λ{x:Operand} {y:SV} (hx:bU tm x=some y)=>pY (g:=g) dQ hx
 cases op with
 |move x=>
  let ⟨y,hy,ho⟩:=aj (show au (bU tm x) (λv=>some (v,([]:cQ)))=some (v,us) from fZ)
  cases ho;exact ⟨_,w,g,.inl rfl,gS.same h (val hy)⟩
 |assign x=>
  let ⟨y,hy,ho⟩:=aj (show au (bU tm x) (λv=>some (v,([]:cQ)))=some (v,us) from fZ)
  cases ho;exact ⟨_,w,g,.inl rfl,gS.same h (val hy)⟩
 |pick c x y=>
  let ⟨cv,hc,ho⟩:=aj (show au (bU tm c) (λv=>au (pa v) λb=>one tm (ay b x y) λv=>some (v,([]:cQ)))=some (v,us) from fZ)
  let ⟨b,hb,ho⟩:=aj ho;let ⟨z,hz,ho⟩:=aj ho;cases ho;obtain rfl:=vz hb;have hcv:a.eval c= .bool b:=by have:=val hc;generalize a.eval c=q at this;cases this;rfl
  refine ⟨if b then a.eval x else a.eval y,w,g,.inl ?_,gS.same h ?_⟩
  ·simp only[execOp,hcv,asBool,Sem.run_bind,Sem.run_pure,Result.andThen_ok]
  ·cases b
   ·exact val hz
   ·exact val hz
 |alloc e=>
  let ⟨i,hi,ho⟩:=aj (show au (E.ty.get e) (λi=>some (SV.ptr new 0,[(new,some (SO.cells e i.zero))]))=some (v,us) from fZ)
  cases ho;let ⟨z,z1,z2⟩:=ajn (hE.ty e i hi);refine ⟨.pointer (some ⟨w.heap.size,0,none⟩),_,_,.inl ?_,h.row hn (w0:=w) (w':=w.alloc (.cells z.cells e)) (l:=0) ⟨rfl,rfl,rfl,rfl⟩ rfl (z2 g) (λj v hv=>by simpa using hv) (pU _) (.ptr (o:=0) (off:=0) (Gh.je _ _ _ _ _))⟩
  simp[execOp,Instr.alloc,z1,newVar,newRow]
 |box e x=>
  let ⟨y,hy,ho⟩:=aj (show au (bU tm x) (Ma new e)=some (v,us) from fZ);let ⟨cs,hc,ho⟩:=aj ho;cases ho;refine ⟨.pointer (some ⟨w.heap.size,0,none⟩),_,_,.inl ?_,h.row hn (w0:=w) (w':=w.alloc (.cells (a.eval x).cells e)) (l:=0) ⟨rfl,rfl,rfl,rfl⟩ rfl ((val hy).gP hc) (λj v hv=>by simpa using hv) (pU _) (.ptr (o:=0) (off:=0) (Gh.je _ _ _ _ _))⟩
  simp[execOp,Instr.box,newVar,newRow]
 |build t parts=>
  let ⟨gI,hpc,ho⟩:=aj (show au (jZ tm parts.toList) (λgI=>same (Ae E t gI))=some (v,us) from fZ)
  let ⟨x,hx,ho⟩:=aj ho;cases ho;let ⟨hl,hpt⟩:=Em dQ parts.toList gI hpc;let ⟨r,r1,r2⟩:=agC hE (parts:=parts.map λ(i,x)=>(i,a.eval x)) hx (by simpa using hl) (λj i v i' xs h1 h2=>hpt j i v i' xs (by simpa using h1) h2) w
  exact ⟨r,w,g,.inl (by simp only[execOp,Sem.run_bind,r1,Result.andThen_ok,Sem.run_pure]),gS.same h r2⟩
 |buildSlice t len parts=>
  let ⟨gI,hpc,ho⟩:=aj (show au (jZ tm parts.toList) (λgI=>kT E new t len gI)=some (v,us) from fZ)
  let ⟨r,w',g',r1,r2⟩:=M8 hE h hn dQ hpc ho;exact ⟨r,w',g',.inl (by simp only[execOp,Sem.run_bind,r1,Result.andThen_ok,Sem.run_pure]),r2⟩
 |insert t m k x=>
  let ⟨y1,y2,h1,h2,ho⟩:=bc (show bE (bU tm m) (bU tm k) (λa b=>one tm x λc=>unit (vV E f t a b c))=some (v,us) from fZ)
  let ⟨y3,h3,ho⟩:=aj ho;let ⟨us',hu,ho⟩:=aj ho;cases ho;let ⟨w',r1,r2,r3⟩:=VH hE h (val h1) (val h2) (val h3) hu;exact ⟨undef,w',g,.inr ⟨by simp only[execOp,Sem.run_bind,r1,Result.andThen_ok,Sem.run_pure],rfl⟩,⟨.cm .nil,r2,r3,λ_ _=>rfl,λ_=>rfl⟩⟩
 |mapUpdate t m k x=>
  let ⟨y1,y2,h1,h2,ho⟩:=bc (show bE (bU tm m) (bU tm k) (λa b=>one tm x λc=>unit (vV E f t a b c))=some (v,us) from fZ)
  let ⟨y3,h3,ho⟩:=aj ho;let ⟨us',hu,ho⟩:=aj ho;cases ho;let ⟨w',r1,r2,r3⟩:=VH hE h (val h1) (val h2) (val h3) hu;exact ⟨undef,w',g,.inr ⟨by simp only[execOp,Sem.run_bind,r1,Result.andThen_ok,Sem.run_pure],rfl⟩,⟨.cm .nil,r2,r3,λ_ _=>rfl,λ_=>rfl⟩⟩
 |load t x=>
  let ⟨y,hy,ho⟩:=aj (show au (bU tm x) (λv=>same (nM E f t v))=some (v,us) from fZ)
  let ⟨z,hz,ho⟩:=aj ho;cases ho;let ⟨r,r1,r2⟩:=PA hE h (val hy) hz;exact ⟨r,w,g,.inl (by simp only[execOp,Sem.run_bind,r1,Result.andThen_ok,Sem.run_pure]),gS.same h r2⟩
 |store t x y=>
  let ⟨y1,y2,h1,h2,ho⟩:=bc (show bE (bU tm x) (bU tm y) (λa v=>unit (p7 E f t v a))=some (v,us) from fZ)
  let ⟨us',hu,ho⟩:=aj ho;cases ho;let ⟨w',r1,r2,r3⟩:=afN hE h (val h1) (val h2) hu;exact ⟨undef,w',g,.inr ⟨by simp only[execOp,Sem.run_bind,r1,Result.andThen_ok,Sem.run_pure],rfl⟩,⟨.cm .nil,r2,r3,λ_ _=>rfl,λ_=>rfl⟩⟩
 |nilCheck x=>
  let ⟨y,hy,ho⟩:=aj (show au (bU tm x) (λv=>same (Pq v))=some (v,us) from fZ)
  let ⟨z,hz,ho⟩:=aj ho;cases ho;obtain ⟨rfl,hk⟩:=akN hz;have hv:=val hy;refine ⟨a.eval x,w,g,.inl ?_,gS.same h hv⟩;rcases hk with ⟨i,o,rfl⟩|⟨fn,c1,c2,rfl⟩<;>(generalize hq:a.eval x=q at hv;cases hv;simp only[execOp,hq,Sem.run_pure])
 |binOp op t x y yt=>
  let ⟨y1,y2,h1,h2,ho⟩:=bc (show bE (bU tm x) (bU tm y) (λv u=>same (Ey E op t x y v u))=some (v,us) from fZ)
  let ⟨z,hz,ho⟩:=aj ho;cases ho;let ⟨r,r1,r2⟩:=arp hE hz (val h1) (val h2) w;exact ⟨r,w,g,.inl (by simp only[execOp,Sem.run_bind] at r1 ⊢;rw[r1];rfl),gS.same h r2⟩
 |unOp op t x=>
  let ⟨y,hy,ho⟩:=aj (show au (bU tm x) (λv=>same (unA op v))=some (v,us) from fZ)
  let ⟨z,hz,ho⟩:=aj ho;cases ho;let ⟨r,r1,r2⟩:=asm hz (val hy) (P:=E.P) w;exact ⟨r,w,g,.inl (by simp only[execOp,Sem.run_bind,r1,Result.andThen_ok,Sem.run_pure]),gS.same h r2⟩
 |convert s d x=>
  let ⟨y,hy,ho⟩:=aj (show au (bU tm x) (λv=>same (Qi E s d v))=some (v,us) from fZ)
  let ⟨z,hz,ho⟩:=aj ho;cases ho;let ⟨r,r1,r2⟩:=amn hE hz (val hy) w;exact ⟨r,w,g,.inl (by simp only[execOp,Sem.run_bind,r1,Result.andThen_ok,Sem.run_pure]),gS.same h r2⟩
 |makeFunc fn first jk=>
  let ⟨gN,ho⟩:=aJ (show ay (Uu fn) (bE (eI tm first.toList) (eI tm jk.toList) λl m=>some (SV.fn fn l m,([]:cQ))) none=some (v,us) from fZ)
  let ⟨l,m,h1,h2,ho⟩:=bc ho;cases ho;cases fn with
  |func k=>
   refine ⟨.func (.func k) (first.map a.eval) (jk.map a.eval),w,g,.inl ?_,gS.same h (.fn ?_ ?_)⟩
   ·simp[execOp,Instr.makeFunc]
   ·simpa using zp dQ h1
   ·simpa using zp dQ h2
  |_=>cases gN
 |makeMap t r=>
  have mk:∀(hv:v= .mp new) (hu:us= [(new,some (.map [] 0))]),∃g',gS g f w v us new (.map (some w.heap.size)) g' (w.alloc (.map #[] 0)):=by
   rintro rfl rfl;let ⟨r1,r2⟩:=h.alloc hn (o':=.map [] 0) (w':=w.alloc (.map #[] 0)) (l:=0) (e:=0) rfl ⟨#[],heap_alloc_new w _,.nil⟩;exact ⟨_,.mp (o:=0) (Gh.je _ _ _ _ _),r1,r2,λid bY=>Gh.lV _ _ _ _ bY,λyQ=>by cases yQ⟩
  cases r with
  |none=>
   cases (show some (SV.mp new,[(new,some (SO.map [] 0))])=some (v,us) from fZ);let ⟨g',q⟩:=mk rfl rfl;refine ⟨_,_,g',.inl ?_,q⟩;simp[execOp,Instr.makeMap,newObj];rfl
  |some x=>
   let ⟨i,y,hi,hy,ho⟩:=bc (show bE (E.ty.get t) (bU tm x) (λi v=>bE (Ce i.desc) (lq v) λ_ _=>Pr new)=some (v,us) from fZ)
   let ⟨q,n,hq,JS,ho⟩:=bc ho;cases ho;let ⟨g',p⟩:=mk rfl rfl;obtain ⟨k,rfl⟩:=uC JS;have hx:=Jy (val hy);have ht:=(hE.ty t i hi).desc;rw[JC hq] at ht;have ht:E.P.underlying t=some (.map q.1 q.2):=ht;refine ⟨_,_,g',.inl ?_,p⟩;simp[execOp,Instr.makeMap,newObj,run_underlying ht,hx,asInt];rfl
 |makeSlice t l c=>
  let ⟨y1,y2,h1,h2,ho⟩:=bc (show bE (bU tm l) (bU tm c) (λu v=>bE (lq u) (lq v) (B9 E new t))=some (v,us) from fZ)
  let ⟨n1,n2,k1,k2,ho⟩:=bc ho;obtain ⟨q1,rfl⟩:=uC k1;obtain ⟨q2,rfl⟩:=uC k2;have e1:=Jy (val h1);have e2:=Jy (val h2);let ⟨r,w',g',r1,r2⟩:=agb (kl:=q1) (kc:=q2) hE h hn ho;exact ⟨r,w',g',.inl (by simp only[execOp,Sem.run_bind,e1,e2,r1,Result.andThen_ok,Sem.run_pure]),r2⟩
 |slice t x lo hi mx=>
  let ⟨y,hy,ho⟩:=aj (show au (bU tm x) (λv=>uI (js tm lo) (js tm hi) (js tm mx) λl u m=>same (BX E t v l u m))=some (v,us) from fZ)
  let ⟨l,u,m,h1,h2,h3,ho⟩:=qs ho;let ⟨z,hz,ho⟩:=aj ho;cases ho;let ⟨r,r1,r2⟩:=afS (w:=w) hE dQ (val hy) h1 h2 h3 hz;exact ⟨r,w,g,.inl (by simp only[execOp,Sem.run_bind,r1,Result.andThen_ok,Sem.run_pure]),gS.same h r2⟩
 |fieldAddr s x k=>
  let ⟨y,hy,ho⟩:=aj (show au (bU tm x) (qw E s k)=some (v,us) from fZ);let ⟨r,r1,r2⟩:=NR (new:=new) hE h (val hy) ho;exact ⟨r,w,g,.inl (by simp only[execOp,Sem.run_bind,r1,Result.andThen_ok,Sem.run_pure]),r2⟩
 |field t x k=>
  let ⟨y,hy,ho⟩:=aj (show au (bU tm x) (yG E t k)=some (v,us) from fZ);let ⟨r,r1,r2⟩:=aaL (new:=new) hE h (val hy) ho;exact ⟨r,w,g,.inl (by simp only[execOp,Sem.run_bind,r1,Result.andThen_ok,Sem.run_pure]),r2⟩
 |indexAddr t x ix=>
  let ⟨y1,y2,h1,h2,ho⟩:=bc (show bE (bU tm x) (bU tm ix) (λv u=>au (lq u) λk=>same (lu E t v k))=some (v,us) from fZ)
  let ⟨n,JS,ho⟩:=aj ho;let ⟨z,hz,ho⟩:=aj ho;cases ho;obtain ⟨q,rfl⟩:=uC JS;have e2:=Jy (val h2);let ⟨r,r1,r2⟩:=PT (w:=w) (kk:=q) hE (val h1) hz;exact ⟨r,w,g,.inl (by simp only[execOp,Sem.run_bind,e2,r1,Result.andThen_ok,Sem.run_pure]),gS.same h r2⟩
 |index t x ix=>
  let ⟨y1,y2,h1,h2,ho⟩:=bc (show bE (bU tm x) (bU tm ix) (λv u=>au (lq u) λk=>sN E t k v)=some (v,us) from fZ)
  let ⟨n,JS,ho⟩:=aj ho;obtain ⟨q,rfl⟩:=uC JS;have e2:=Jy (val h2);let ⟨r,r1,r2⟩:=aaK (new:=new) (kk:=q) hE h (val h1) ho;exact ⟨r,w,g,.inl (by simp only[execOp,Sem.run_bind,e2,r1,Result.andThen_ok,Sem.run_pure]),r2⟩
 |lookup t x k ok=>
  let ⟨y1,y2,h1,h2,ho⟩:=bc (show bE (bU tm x) (bU tm k) (λa b=>same (sO E f t a b ok))=some (v,us) from fZ)
  let ⟨z,hz,ho⟩:=aj ho;cases ho;let ⟨r,r1,r2⟩:=abe hE h (val h1) (val h2) hz;exact ⟨r,w,g,.inl (by simp only[execOp,Sem.run_bind,r1,Result.andThen_ok,Sem.run_pure]),gS.same h r2⟩
 |range t x=>
  let ⟨y,hy,ho⟩:=aj (show au (bU tm x) (wM E f new t)=some (v,us) from fZ);let ⟨r,w',g',r1,r2⟩:=aaI hE h hn (val hy) ho;exact ⟨r,w',g',.inl (by simp only[execOp,Sem.run_bind,r1,Result.andThen_ok,Sem.run_pure]),r2⟩
 |next it tV=>
  let ⟨y,hy,ho⟩:=aj (show au (bU tm it) (xk f tV)=some (v,us) from fZ);let ⟨r,w',r1,r2⟩:=aga (new:=new) (ty:=ty) hE h (val hy) ho;exact ⟨r,w',g,.inl (by simp only[execOp,Sem.run_bind,r1,Result.andThen_ok,Sem.run_pure]),r2⟩
 |extract x i=>
  let ⟨y,hy,ho⟩:=aj (show au (bU tm x) (λv=>au (OJ v) λvs=>same (vs[i]?))=some (v,us) from fZ)
  let ⟨vs,rp,ho⟩:=aj ho;let ⟨z,hz,ho⟩:=aj ho;cases ho;obtain rfl:=ajw rp;have hv:=val hy;generalize hq:a.eval x=q at hv;cases hv with
  |cm hr=>
   let ⟨u,u1,u2⟩:=hr.get hz;refine ⟨u,w,g,.inl ?_,gS.same h u2⟩;simp only[execOp,hq,Instr.extract];rw[mL] at u1;rw[u1];rfl
 |call c=>
  have ho:nW E tm f new c=some (v,us):=fZ;unfold nW at ho;split at ho
  ·rename_i b hb;let ⟨aa,has,ho⟩:=aj ho;let ⟨r,w',g',r1,r2⟩:=Ur hE h dQ hn (ts:=c.argTypes) has ty (c.args.map fun| .const _=>true|_=>false) ho
   refine ⟨r,w',g',.inl ?_,r2⟩;simp only[execOp,resolve,hb,Sem.run_bind,Sem.run_pure,Result.andThen_ok,invoke];exact r1
  ·cases ho
 |_=>cases fZ
end
section
variable {E:Env} {g:Gh} {f f':Hf} {w:World} {T T':Tf}
def ajt {x:Operand} (h:∀t,x= .tmp t->T t=T' t):bU T x=bU T' x:=by
 cases x with
 |tmp t=>exact h t rfl
 |_=>rfl
def xd:∀{xs:List Operand},(∀x∈xs,bU T x=bU T' x)->eI T xs=eI T' xs
 | [],_=>rfl
 |x::xs,h=>by
  show bE (bU T x) (eI T xs) _=bE (bU T' x) (eI T' xs) _;rw[h x (by simp),xd λy hy=>h y (by simp[hy])]
def B6:∀{ps:List (Nat×Operand)},(∀p∈ps,bU T p.2=bU T' p.2)->jZ T ps=jZ T' ps
 | [],_=>rfl
 |p::ps,h=>by
  show au (bU T p.2) (λv=>bE v.cells (jZ T ps) _)=au (bU T' p.2) (λv=>bE v.cells (jZ T' ps) _)
  rw[h p (by simp),B6 λq hq=>h q (by simp[hq])]
def B8 {x:Option Operand} (h:∀y,x=some y->bU T y=bU T' y):js T x=js T' x:=by
 cases x with
 |none=>rfl
 |some y=>
  show au (bU T y) _=au (bU T' y) _;rw[h y rfl]
def NY (h:vL v=some q):q.1∈mo (some v):=by
 rw[om h];simp[mo]
def agt (h:∀id∈mo (some v),f id=f' id):nM E f t v=nM E f' t v:=by
 unfold nM;cases hp:vL v with
 |none=>rfl
 |some q=>
  show au (E.ty.get t) (λi=>au (gP (f q.1) q.2 (wide i)) _)=au (E.ty.get t) (λi=>au (gP (f' q.1) q.2 (wide i)) _)
  rw[h _ (NY hp)]
def YO {a:SV} (h:∀id∈mo (some a),f id=f' id):p7 E f t v a=p7 E f' t v a:=by
 unfold p7;cases hp:vL a with
 |none=>rfl
 |some q=>
  show uI (E.ty.get t) v.cells (nE (f q.1)) _=uI (E.ty.get t) v.cells (nE (f' q.1)) _;rw[h _ (NY hp)]
def aco (h:∀id∈mo (some x),f id=f' id):acp x f=acp x f':=by
 cases x<;>first|rfl|(rename_i id;show au (kf (f id)) _=au (kf (f' id)) _;rw[h id (by simp[mo])])
def Xa {ok:Bool} (h:∀id∈mo (some x),f id=f' id):sO E f t x k ok=sO E f' t x k ok:=by
 unfold sO;rw[aco h]
def OI (h:∀id∈mo (some x),f id=f' id):vV E f t x k v=vV E f' t x k v:=by
 unfold vV;cases hp:ati x with
 |none=>rfl
 |some id=>
  have:=VV hp;subst this;show au (E.ty.get t) (λi=>au (Ce i.desc) λq=>bE (E.ty.get q.1) (kf (f id)) _)=au (E.ty.get t) (λi=>au (Ce i.desc) λq=>bE (E.ty.get q.1) (kf (f' id)) _)
  rw[h id (by simp[mo])]
def W7 (h:∀id∈mo (some x),f id=f' id):wM E f new t x=wM E f' new t x:=by
 have e:∀D:UD,Jf D x f=Jf D x f':=by
  intro D;cases D<;>first|rfl|skip
  cases x<;>first|rfl|(rename_i id;show au (kf (f id)) _=au (kf (f' id)) _;rw[h id (by simp[mo])])
 unfold wM;simp only[e]
def aaJ (h:∀id∈mo (some x),f id=f' id):xk f tV x=xk f' tV x:=by
 unfold xk;cases hp:wz x with
 |none=>rfl
 |some id=>
  let ⟨q,h1,h2⟩:=aj hp;let ⟨_,h2⟩:=aJ h2;cases h2;show ay tV (au (Ds (f q.1)) _) none=ay tV (au (Ds (f' q.1)) _) none;rw[h _ (NY h1)]
def IC {id off n:Nat} (h:f id=f' id):kM f id off n=kM f' id off n:=by unfold kM;rw[h]
def afP {size:Nat} (h:∀id∈mo (some x),f id=f' id):uy f size x=uy f' size x:=by
 cases x<;>first
  |rfl
  |(
   rename_i id off n c
   have e:rowOf (.sl id off n c) f size=rowOf (.sl id off n c) f' size:=IC (h id (by simp[mo]))
   show BS f size (.sl id off n c)=BS f' size (.sl id off n c)
   unfold BS
   rw[e])
def agE {size:Nat} (h:∀id∈mo (some s),f id=f' id):xP s f new e size m xs=xP s f' new e size m xs:=by
 cases s<;>first
  |rfl
  |(
   rename_i id off n c
   show D1 f new e size m xs id off n c=D1 f' new e size m xs id off n c
   unfold D1
   rw[h id (by simp[mo]),IC (h id (by simp[mo]))])
def Xd (h1:∀id∈mo (some s),f id=f' id) (h2:∀id∈mo (some x),f id=f' id):mC E f new t s x=mC E f' new t s x:=by
 unfold mC Vi;have e1:∀size,uy f size x=uy f' size x:=λsize=>afP h2
 have e2:∀e size m xs,xP s f new e size m xs=xP s f' new e size m xs:=λe size m xs=>agE h1
 simp only[e1,e2]
def akT {D:UD} (h:∀id∈mo (some x),f id=f' id):yK D x f=yK D x f':=by
 cases D<;>first
  |rfl
  |(
   show atl x f=atl x f'
   cases x<;>first|rfl|(rename_i id;show au (kf (f id)) _=au (kf (f' id)) _;rw[h id (by simp[mo])]))
def tT {xs:List Operand} {x:Operand} (hx:x∈xs) {id:Nat} (h:id∈mo (bU T x)):id∈pj T xs:=by
 induction xs with
 |nil=>simp at hx
 |cons y ys ih=>
  show id∈mo (bU T y)++pj T ys;rw[ee];rcases bB.1 hx with rfl|hx
  ·exact .inl h
  ·exact .inr (ih hx)
def abB:∀{xs:List Operand} {aa:aM},eI T xs=some aa->∀a∈aa,∀id∈mo (some a),id∈pj T xs
 | [],aa,h,a,ha,_,_=>by cases h;simp at ha
 |x::xs,aa,h,a,ha,id,cK=>by
  let ⟨v,l,h1,h2,h3⟩:=bc h;cases h3;show id∈mo (bU T x)++pj T xs;rw[ee];rcases bB.1 ha with rfl|ha
  ·rw[h1];exact .inl cK
  ·exact .inr (abB h2 a ha id cK)
def V5:∀{xs:List Operand} {aa:aM},eI T xs=some aa->∀a∈aa,∀id∈idM (some a),id∈Hc T xs
 | [],aa,h,a,ha,id,cK=>by
  have h:some []=some aa:=h;cases h;cases ha
 |x::xs,aa,h,a,ha,id,cK=>by
  let ⟨v,l,h1,h2,h3⟩:=bc (show bE (bU T x) (eI T xs) (λv l=>some (v::l))=some aa from h)
  cases h3;show id∈idM (bU T x)++Hc T xs;rcases bB.1 ha with e|ha
  ·rw[h1,<-e];exact eJ _ cK
  ·exact ez _ (V5 h2 a ha id cK)
def aDO (b:Builtin):Bool:=match b with| .len=>true|_=>false
def agu {D:UD} (h:∀id∈idM (some x),f id=f' id):yK D x f=yK D x f':=by
 cases x<;>first|exact akT h|(cases D<;>rfl)
def apg {op:Op} (hT:∀x∈op.operands.toList,bU T x=bU T' x) (hf:∀id∈kL op T,f id=f' id):oO E op T f new=oO E op T' f' new:=by
 have sm:∀(x:Operand) (k:SV->gf),x∈op.operands.toList->one T x k=one T' x k:=λx k hx=>by unfold one;rw[hT x hx]
 have IU:∀(x y:Operand) (k:SV->SV->gf),x∈op.operands.toList->y∈op.operands.toList->two T x y k=two T' x y k:=λx y k hx hy=>by unfold two;rw[hT x hx,hT y hy]
 have Ut:∀(x:Operand) (k k':SV->gf),x∈op.operands.toList->(∀v,bU T x=some v->k v=k' v)->one T x k=one T' x k':=λx k k' hx hk=>by
  rw[<-sm x k' hx];unfold one;cases hv:bU T x with
  |none=>rfl
  |some v=>exact hk v hv
 have aju:∀(x y:Operand) (k k':SV->SV->gf),x∈op.operands.toList->y∈op.operands.toList->(∀v u,bU T x=some v->bU T y=some u->k v u=k' v u)->two T x y k=two T' x y k':=λx y k k' hx hy hk=>by
  rw[<-IU x y k' hx hy];unfold two;cases hv:bU T x with
  |none=>rfl
  |some v=>
   cases hu:bU T y with
   |none=>rfl
   |some u=>exact hk v u hv hu
 cases op with
 |move x=>exact sm x _ (by simp[Op.operands])
 |assign x=>exact sm x _ (by simp[Op.operands])
 |pick c x y=>
  show au (bU T c) (λv=>au (pa v) λb=>one T (ay b x y) _)=au (bU T' c) (λv=>au (pa v) λb=>one T' (ay b x y) _)
  rw[hT c (by simp[Op.operands])]
  congr 1;funext v;congr 1;funext b;cases b
  ·exact sm y _ (by simp[Op.operands])
  ·exact sm x _ (by simp[Op.operands])
 |alloc e=>rfl
 |box e x=>exact sm x _ (by simp[Op.operands])
 |build t ps=>
  show au (jZ T ps.toList) _=au (jZ T' ps.toList) _;rw[B6 λp hp=>hT p.2 (by simp[Op.operands];exact ⟨p.1,by simpa using hp⟩)]
 |buildSlice t n ps=>
  show au (jZ T ps.toList) _=au (jZ T' ps.toList) _;rw[B6 λp hp=>hT p.2 (by simp[Op.operands];exact ⟨p.1,by simpa using hp⟩)]
 |insert t m k x=>
  refine aju m k _ _ (by simp[Op.operands]) (by simp[Op.operands]) λv u hv hu=>Ut x _ _ (by simp[Op.operands]) λc hc=> ?_
  rw[OI λid cK=>hf id (tT (xs:= [m,k,x]) (x:=m) (by simp) (by rw[hv];exact cK))]
 |mapUpdate t m k x=>
  refine aju m k _ _ (by simp[Op.operands]) (by simp[Op.operands]) λv u hv hu=>Ut x _ _ (by simp[Op.operands]) λc hc=> ?_
  rw[OI λid cK=>hf id (tT (xs:= [m,k,x]) (x:=m) (by simp) (by rw[hv];exact cK))]
 |load t x=>
  refine Ut x _ _ (by simp[Op.operands]) λv hv=> ?_
  rw[agt λid cK=>hf id (tT (xs:= [x]) (x:=x) (by simp) (by rw[hv];exact cK))]
 |store t x y=>
  refine aju x y _ _ (by simp[Op.operands]) (by simp[Op.operands]) λv u hv hu=> ?_
  rw[YO λid cK=>hf id (tT (xs:= [x,y]) (x:=x) (by simp) (by rw[hv];exact cK))]
 |nilCheck x=>exact sm x _ (by simp[Op.operands])
 |binOp op t x y yt=>exact IU x y _ (by simp[Op.operands]) (by simp[Op.operands])
 |unOp op t x=>exact sm x _ (by simp[Op.operands])
 |convert s d x=>exact sm x _ (by simp[Op.operands])
 |makeFunc fn a c=>
  show ay (Uu fn) (bE (eI T a.toList) (eI T c.toList) _) none=ay (Uu fn) (bE (eI T' a.toList) (eI T' c.toList) _) none;rw[xd λx hx=>hT x (by simp[Op.operands];exact .inl (by simpa using hx)),xd λx hx=>hT x (by simp[Op.operands];exact .inr (by simpa using hx))]
 |makeMap t r=>
  cases r with
  |none=>rfl
  |some x=>
   show bE (E.ty.get t) (bU T x) _=bE (E.ty.get t) (bU T' x) _;rw[hT x (by simp[Op.operands])]
 |makeSlice t l c=>exact IU l c _ (by simp[Op.operands]) (by simp[Op.operands])
 |slice t x lo hi mx=>
  refine Ut x _ _ (by simp[Op.operands]) λv hv=> ?_
  rw[B8 (x:=lo) λy hy=>hT y (by subst hy;simp[Op.operands]),B8 (x:=hi) λy hy=>hT y (by subst hy;simp[Op.operands]),B8 (x:=mx) λy hy=>hT y (by subst hy;simp[Op.operands])]
 |fieldAddr s x k=>exact sm x _ (by simp[Op.operands])
 |field t x k=>exact sm x _ (by simp[Op.operands])
 |indexAddr t x ix=>exact IU x ix _ (by simp[Op.operands]) (by simp[Op.operands])
 |index t x ix=>exact IU x ix _ (by simp[Op.operands]) (by simp[Op.operands])
 |lookup t x k ok=>
  refine aju x k _ _ (by simp[Op.operands]) (by simp[Op.operands]) λv u hv hu=> ?_
  rw[Xa λid cK=>hf id (tT (xs:= [x,k]) (x:=x) (by simp) (by rw[hv];exact cK))]
 |range t x=>
  refine Ut x _ _ (by simp[Op.operands]) λv hv=> ?_
  exact W7 λid cK=>hf id (tT (xs:= [x]) (x:=x) (by simp) (by rw[hv];exact cK))
 |next it tV=>
  refine Ut it _ _ (by simp[Op.operands]) λv hv=> ?_
  exact aaJ λid cK=>hf id (tT (xs:= [it]) (x:=it) (by simp) (by rw[hv];exact cK))
 |extract x i=>exact sm x _ (by simp[Op.operands])
 |call c=>
  show nW E T f new c=nW E T' f' new c;unfold nW;split
  ·rename_i b hb;have ev:eI T c.args.toList=eI T' c.args.toList:=xd λx hx=>hT x (by simp[Op.operands,Call.operands,hb];simpa using hx)
   rw[<-ev];cases hv:eI T c.args.toList with
   |none=>rfl
   |some aa=>
    have hid0:vp c=false->∀a∈aa,∀id∈mo (some a),f id=f' id:=λhl a ha id h=>hf id (by
     show id∈ay (vp c) (Hc T c.args.toList) (pj T c.args.toList);rw[hl];exact abB hv a ha id h)
    have hidM:vp c=true->∀a∈aa,∀id∈idM (some a),f id=f' id:=λhl a ha id h=>hf id (by
     show id∈ay (vp c) (Hc T c.args.toList) (pj T c.args.toList);rw[hl];exact V5 hv a ha id h)
    have lenC:vp c=aDO b:=by unfold vp;rw[hb];cases b<;>rfl
    show oz E f new b aa _=oz E f' new b aa _;have e1:vp c=false->∀t p,uY aa=some p->mC E f new t p.1 p.2=mC E f' new t p.1 p.2:=λhl t p h1=>by
     have cK:=hid0 hl;have hp:=Ab h1;exact Xd (cK p.1 (by rw[hp];simp)) (cK p.2 (by rw[hp];simp))
    have e3:vp c=true->∀D x,aa.head? =some x->yK D x f=yK D x f':=λhl D x h1=>agu (hidM hl x (List.mem_of_head? h1))
    unfold oz;cases b<;>(first|(have e1:=e1 lenC)|(have e3:=e3 lenC))<;>first
     |rfl
     |(
      simp only
      generalize hq:uY aa=q at e1
      cases q with
      |none=>rfl
      |some p=>simp only[bE,e1 _ p rfl])
     |(
      simp only
      generalize hq:aa.head? =q at e3
      cases q with
      |none=>rfl
      |some p=>simp only[bE,e3 _ p rfl])
  ·rfl
 |_=>rfl
end
section
variable {E:Env} {g:Gh} {f:Hf} {w:World}
def sw (ro:da):Fence:={fn:=λ_=>True,depth:=none,alive:=false,round:=ro}
def yF (T:Tf) (d:da) (v:SV):Tf:=λt=>if d=some t then some v else T t
def tP (tm:cq) (d:da) (v:SV):(cM tm d v).get=yF tm.get d v:=by
 cases d with
 |none=>funext t;simp[cM,yF]
 |some d=>
  funext t;show (tm.set d (some v)).get t=_;rw[Tr.iU];simp only[yF,Option.some.injEq];by_cases h:t=d
  ·subst h;simp
  ·rw[aA h,aA (λe=>h e.symm)]
def auU {nt d:Nat} (h:fS nt (some d)=true):d<nt:=(cN _ _).1 h
def FR.put {nt:Nat} {T:Tf} (h:FR g nt T a.tmps) {d:da} (hd:fS nt d=true) {r:Value} (hv:VR g r v):FR g nt (yF T d v) (a.put d r).tmps:=by
 cases d with
 |none=>
  refine ⟨h.sz,λt x hx=>h.tm t x ?_⟩
  simpa[yF] using hx
 |some d=>
  have bD:=auU hd;refine ⟨by simpa[Act.put] using h.sz,λt x hx=> ?_⟩
  simp only[yF,Option.some.injEq] at hx;show VR g ((a.tmps.setIfInBounds d r).getD t undef) x;simp only[qX,YH];split at hx
  ·rename_i e;subst e;obtain rfl:v=x:=by simpa using hx
   have:d<a.tmps.size:=by rw[h.sz];exact bD
   simpa[this] using hv
  ·rename_i e;rw[aA e];have:=h.tm t x hx;simpa[qX] using this
def put_defers (a:Act) (d:da) (r:Value):(a.put d r).defers=a.defers:=by cases d<;>rfl
def Dk:∀(l:bS) (j:Nat),Cb l j=(l[j]?).bind (·.dst)
 | [],j=>by simp;rfl
 |o::l,0=>rfl
 |o::l,j+1=>by
  show Cb l j=_;rw[Dk l j];simp
def y4 {nt:Nat} {T:Tf} (h:FR g nt T a.tmps) {all:fk} {b:Bool} (hw:eD all.toList o T=some b):Region.wanted o (yielded all a.tmps)=b:=by
 unfold eD at hw;unfold Region.wanted;cases hg:o.guard with
 |none=>rw[hg] at hw;cases hw;rfl
 |some p=>
  let ⟨j,want⟩:=p;rw[hg] at hw;have hw:wG all.toList T j want=some b:=hw;unfold wG at hw;rw[Dk,mL] at hw;simp only[yielded];cases hd:(all[j]?).bind (·.dst) with
  |none=>
   rw[hd] at hw;cases hw;simp
  |some t=>
   rw[hd] at hw;let ⟨x,hx,hw⟩:=aj (show au (T t) (ajq want)=some b from hw);have hv:=h.tm t x hx;simp only[aq];rw[qX] at hv;cases ht:a.tmps[t]? with
   |none=>
    rw[ht] at hv;simp only[Lr] at hv;have hu:(undef:Value)= .tuple #[]:=rfl;rw[hu] at hv;cases hv with
    |cm _=>cases hw;rfl
    |undef _=>cases hw
   |some u=>
    rw[ht] at hv;simp only[yj] at hv;cases hv<;>first
     |(cases hw;rfl)
     |(rename_i c;cases hw;cases c<;>cases want<;>rfl)
     |cases hw
def oQ (D:Nat->Bool) (H f:Hf):Hf:=λx=>if D x=true then H x else f x
def zh (E:Env) (ro:da) (nt:Nat) (all:fk) (i:Nat) (o:Oper) (T:Tf) (need:Nat->Prop) (H:Hf) (frp newp:Nat->Prop) (v:SV) (D:Nat->Bool) (H':Hf):Prop:=
 ∀(m:Nat) (g:Gh) (f:Hf) (T1:Tf) (a:Act) (w:World) (K:Act->World->Prop) (Q:Exit->Act->World->Prop),dP E g->FR g nt T1 a.tmps->HR g f w->(∀t∈o.looksAt all,T1 t=T t)->(∀x,need x->f x=H x)->(∀x,frp x->g.Z x=none)->
  (∀r w' g',FR g' nt (yF T1 o.dst v) (a.put o.dst r).tmps->HR g' (oQ D H' f) w'->Fr g f w g' (oQ D H' f) w'->(∀x,¬newp x->g'.Z x=g.Z x)->K (a.put o.dst r) w')->
  wpOpIn (sw ro) m E.P all Q i K a w
def Ir {all:fk} {T:Tf} (h:∀t∈o.looksAt all,T1 t=T t):∀x∈o.op.operands.toList,bU T1 x=bU T x:=λx hx=>ajt λt ht=>h t (by
 subst ht;exact eJ _ (List.mem_filterMap.2 ⟨.tmp t,hx,rfl⟩))
def An {all:fk} {T:Tf} (h:∀t∈o.looksAt all,T1 t=T t):eD all.toList o T1=eD all.toList o T:=by
 unfold eD;cases hg:o.guard with
 |none=>rfl
 |some p=>
  show wG all.toList T1 p.1 p.2=wG all.toList T p.1 p.2;unfold wG;rw[Dk,mL];cases hd:(all[p.1]?).bind (·.dst) with
  |none=>rfl
  |some t=>
   show au (T1 t) _=au (T t) _;rw[h t (by simp[Oper.looksAt,hg,hd])]
def BN:∀(us:cQ) (H f:Hf) (x:Nat),nQ f us x=if x∈us.map (·.1) then nQ H us x else f x
 | [],H,f,x=>by simp[nQ]
 |u::us,H,f,x=>by
  show nQ (lJ f u) us x=if x∈(u::us).map (·.1) then nQ (lJ H u) us x else f x
  rw[BN us (lJ H u) (lJ f u) x];by_cases h1:x∈us.map (·.1)
  ·rw[ax h1,ax (by simp at h1 ⊢;exact .inr h1)]
  ·rw[aA h1];by_cases h2:x=u.1
   ·rw[ax (by simp[h2])]
    rw[BN us (lJ f u) (lJ H u) x,aA h1];simp[lJ,h2]
   ·rw[aA (by simp at h1 ⊢;exact ⟨h2,h1⟩)]
    simp[lJ,h2]
def Bl (P:Program) (w:World):∀k,o.about P w a.eval=some k->(sw ro).fn k:=λ_ _=>trivial
def Na {nt:Nat} {all:fk} {T:Tf} (hi:all[i]? =some o) (hw:eD all.toList o T=some true) (hd:fS nt o.dst=true) (ho:oO E o.op T H new=some (v,us)) (hH:H new=none) (hD:∀x,D x=true↔(x∈us.map (·.1)\/x=new)) (yc:∀c,o.op≠ .defer c):
  zh E ro nt all i o T (λx=>x∈kL o.op T) H (λx=>x=new) (λx=>x=new/\us≠ []) v D (nQ H us):=by
 intro m g f T1 a w K Q hE dQ hr hT XB jP hk;have e1:oO E o.op T1 f new=some (v,us):=by
  rw[<-ho];refine (apg (λx hx=>(Ir hT x hx).symm) (λid cK=>(XB id cK).symm)).symm
 have hn:=jP new rfl;let ⟨r,w',g',ky,hp⟩:=asZ hE hr dQ hn e1;have Hr:nQ f us=oQ D (nQ H us) f:=by
  funext x;unfold oQ;rw[BN us H f x];by_cases h1:x∈us.map (·.1)
  ·rw[ax h1,ax ((hD x).2 (.inl h1))]
  ·rw[aA h1];by_cases h2:x=new
   ·rw[ax ((hD x).2 (.inr h2)),BN us f H x,aA h1,h2,hH,hr.Fj hn]
   ·rw[aA (λh=>by rcases (hD x).1 h with h|h;exact h1 h;exact h2 h)]
 have xz:=hk r w' g' ((dQ.mono hp.fr.le).put hd hp.val) (Hr ▸ hp.hr) (Hr ▸ hp.fr) (λx hx=>by
  by_cases hu:us= []
  ·rw[hp.nil hu]
  ·exact hp.ro x (λhe=>hx ⟨he,hu⟩))
 unfold wpOpIn;rw[hi];simp only;rw[ax (y4 dQ (by rw[An hT];exact hw))]
 refine ⟨Bl E.P w,?_⟩;rw[Oper.semAt_eq _ _ _ yc];rcases ky with h1|⟨h1,rfl⟩
 ·rw[h1];exact xz
 ·rw[h1];exact xz
def step_skip {nt:Nat} {all:fk} {T:Tf} (hi:all[i]? =some o) (hw:eD all.toList o T=some false) (hd:fS nt o.dst=true) (hH:H new=none) (hD:∀x,D x=true↔x=new):
  zh E ro nt all i o T (λ_=>False) H (λx=>x=new) (λ_=>False) (.cm []) D H:=by
 intro m g f T1 a w K Q hE dQ hr hT XB jP hk;have hn:=jP new rfl;have Hr:f=oQ D H f:=by
  funext x;unfold oQ;by_cases h2:x=new
  ·rw[ax ((hD x).2 h2),h2,hH,hr.Fj hn]
  ·rw[aA (λh=>h2 ((hD x).1 h))]
 have xz:=hk undef w g (dQ.put hd (.cm .nil)) (Hr ▸ hr) (Hr ▸ Fr.refl g f w) (λ_ _=>rfl)
 unfold wpOpIn;rw[hi];simp only;have hwn:=y4 dQ (by rw[An hT];exact hw)
 rw[aA (by rw[hwn];simp)]
 exact ⟨Bl E.P w,xz⟩
def MY (P : Program) (m : Nat) (u : Value) (us : hY) (w : World) (K : Ending -> World -> Prop) : Prop :=
  ∃ d, (Deferred.ofValue u us).run P w = .ok d w /\
    ((∃ k aa, (invoke d.target d.args).run P w = .ok (.enter k aa) w /\ CallsIn Fence.wide m P k aa w K) \/
     (∃ l k tmps aa bo, (invoke d.target d.args).run P w = .ok (.round l k tmps aa bo) w /\ RoundIn Fence.wide m P l k tmps aa bo w K) \/
     (∃ r w', (invoke d.target d.args).run P w = .ok (.value r) w' /\ K (.returned r) w'))
def MY.mono {us:hY} {w:World} {K K':Ending->World->Prop} (h:MY P m u us w K) (hk:∀e w',K e w'->K' e w'):MY P m u us w K':=by
 let ⟨d,h1,h2⟩:=h;refine ⟨d,h1,?_⟩;rcases h2 with ⟨k,aa,q1,q2⟩|⟨l,k,t,aa,bo,q1,q2⟩|⟨r,w',q1,q2⟩
 ·exact .inl ⟨k,aa,q1,CallsIn.mono q2 hk⟩
 ·exact .inr (.inl ⟨l,k,t,aa,bo,q1,RoundIn.mono q2 hk⟩)
 ·exact .inr (.inr ⟨r,w',q1,hk _ _ q2⟩)
def XL (fQ:Bool) (u:Value):Ending:=if fQ=true then .panicked [{v:=u,recovered:=false}] else .returned u
def QB (g:Gh) (H:Hf) (w:World) (nx:Nat) (r:Rs) (e:Ending) (w':World):Prop:=
 ∃u g',e=XL r.fQ u/\VR g' u r.v/\HR g' r.h.hp.get w'/\Fr g H w g' r.h.hp.get w'/\(∀x,x<nx->g'.Z x=g.Z x)/\∀x,r.h.nx<=x->g'.Z x=none
def yY (E:Env) (fv:SV) (aa:aM) (H:Hf) (nx:Nat) (l:List Rs):Prop:=
 ∀(m:Nat) (g:Gh) (w:World) (u:Value) (us:eH),dP E g->HR g H w->(∀x,nx<=x->g.Z x=none)->VR g u fv->kH g us aa->
  MY E.P m u us.toArray w λe w'=>∃r∈l,QB g H w nx r e w'
def BF (E:Env) (fQ:Bool) (fv:SV) (aa:aM) (H:Hf) (nx:Nat) (v:SV) (H':Hf) (oA:Nat):Prop:=
 ∀(m:Nat) (g:Gh) (w:World) (u:Value) (us:eH),dP E g->HR g H w->(∀x,nx<=x->g.Z x=none)->VR g u fv->kH g us aa->
  MY E.P m u us.toArray w λe w'=>∃r,e=XL fQ r/\∃g',VR g' r v/\HR g' H' w'/\Fr g H w g' H' w'/\(∀x,x<nx->g'.Z x=g.Z x)/\∀x,oA<=x->g'.Z x=none
def yY.one {r:Rs} (h:yY E fv aa H nx [r]):BF E r.fQ fv aa H nx r.v r.h.hp.get r.h.nx:=
 λm g w u us hE hr iq hu lQ=>(h m g w u us hE hr iq hu lQ).mono λe w' ⟨r',hm,u',g',q1,q2,q3,q4,q5,q6⟩=>by
  obtain rfl:=cB.1 hm;exact ⟨u',q1,g',q2,q3,q4,q5,q6⟩
def alT (hr:HR g f w) (uX:∀x o,H x=some o->f x=some o) (abQ:∀x,nx<=x->g.Z x=none) (fY:HR g' H' w') (hf:Fr g H w g' H' w') (iH:∀x,x<nx->g'.Z x=g.Z x) (hD:∀x,D x=false->x<nx->H' x=H x) (hD2:∀x,D x=false->nx<=x->H' x=none):HR g' (oQ D H' f) w'/\Fr g f w g' (oQ D H' f) w':=by
 have wW:∀x,nx<=x->f x=none:=λx hx=>hr.Fj (abQ x hx)
 have other:∀x o,D x=false->f x=some o->H x=none->∃b c,g.Z x=some (b,c)/\b<w.heap.size/\OR g w x b c o/\¬amP g H b:=by
  intro x o hd hx hn;let ⟨b,c,q1,q2,q3⟩:=hr.ob x o hx;refine ⟨b,c,q1,q2,q3,λ⟨id,o',c',h1,h2⟩=> ?_⟩
  have:=hr.inj id x o' o b c' c (uX id o' h1) hx h2 q1;subst this;rw[hn] at h1;simp at h1
 have Me:∀x o,f x=some o->x<nx:=λx o hx=>by
  by_cases h:nx<=x
  ·rw[wW x h] at hx;simp at hx
  ·omega
 have cls:∀x o,oQ D H' f x=some o->H' x=some o\/(D x=false/\f x=some o/\H x=none):=by
  intro x o hx;unfold oQ at hx;split at hx
  ·exact .inl hx
  ·rename_i hd;have hd:D x=false:=by simpa using hd
   cases hh:H x with
   |none=>exact .inr ⟨hd,hx,rfl⟩
   |some o'=>
    have:=uX x o' hh;rw[hx] at this;cases this;exact .inl ((hD x hd (Me x o hx)).trans hh)
 refine ⟨⟨λx o hx=> ?_,λi j x y b c d hx hy e1 e2=> ?_⟩,⟨hf.os,hf.tape,hf.output,hf.size,hf.le,λb hb hn=>hf.old b hb (λ⟨id,o,c,h1,h2⟩=>hn ⟨id,o,c,uX id o h1,h2⟩),λb hb hm=> ?_⟩⟩
 ·rcases cls x o hx with h1|⟨h1,h2,h3⟩
  ·exact fY.ob x o h1
  ·let ⟨b,c,q1,q2,q3,q4⟩:=other x o h1 h2 h3;exact ⟨b,c,(iH x (Me x o h2)).trans q1,mA q2 hf.size,q3.mono hf.le q1 (hf.old b q2 q4)⟩
 ·have axZ:∀p q z z' b c d,H' p=some z->D q=false->f q=some z'->H q=none->g'.Z p=some (b,c)->g'.Z q=some (b,d)->False:=by
   intro p q z z' b c d h1 h2 h3 h4 e1 e2;let ⟨b',c',q1,q2,q3,q4⟩:=other q z' h2 h3 h4;rw[iH q (Me q z' h3),q1] at e2;cases e2;exact q4 (hf.own _ q2 ⟨p,z,c,h1,e1⟩)
  rcases cls i x hx with h1|⟨h1,h2,h3⟩<;>rcases cls j y hy with k1|⟨k1,k2,k3⟩
  ·exact fY.inj i j x y b c d h1 k1 e1 e2
  ·exact (axZ i j x y b c d h1 k1 k2 k3 e1 e2).elim
  ·exact (axZ j i y x b d c k1 h1 h2 h3 e2 e1).elim
  ·rw[iH i (Me i x h2)] at e1;rw[iH j (Me j y k2)] at e2;exact hr.inj i j x y b c d h2 k2 e1 e2
 ·let ⟨x,o,c,hx,e⟩:=hm;rcases cls x o hx with h1|⟨h1,h2,h3⟩
  ·let ⟨id,o',c',q1,q2⟩:=hf.own b hb ⟨x,o,c,h1,e⟩;exact ⟨id,o',c',uX id o' q1,q2⟩
  ·rw[iH x (Me x o h2)] at e;exact ⟨x,o,c,h2,e⟩
def aie {nt:Nat} {all:fk} {T:Tf} {H:Hf} {nx:Nat} (hi:all[i]? =some o) (hw:eD all.toList o T=some true) (dN:o.op= .call c) (hc:pR T c.callee=some fv) (has:eI T c.args.toList=some aa) (dQ:FR g nt T1 a.tmps) (hT:∀t∈o.looksAt all,T1 t=T t) (hs:∀(u:Value) (us:eH),VR g u fv->kH g us aa->MY E.P (m-1) u us.toArray w KE) (hk:∀e w',KE e w'->∃fQ r,e=XL fQ r/\(fQ=false->K (a.put o.dst r) w')/\(fQ=true->Q (.panic [{v:=r,recovered:=false}]) a w')):
  wpOpIn (sw ro) m E.P all Q i K a w:=by
 obtain ⟨x,hx⟩:∃x,c.callee= .value x:=by
  cases Aa:c.callee with
  |value x=>exact ⟨x,rfl⟩
  |_=>rw[Aa] at hc;cases hc
 have auh:=Ir hT;rw[dN] at auh;have hfv:bU T1 x=some fv:=by
  rw[auh x (by simp[Op.operands,Call.operands,hx])]
  rw[hx] at hc;exact hc
 have hva:eI T1 c.args.toList=some aa:=by
  rw[<-has];exact xd λy hy=>auh y (by simp[Op.operands,Call.operands,hx];exact .inr (by simpa using hy))
 have hu:=pY dQ hfv;have lQ:=zp dQ hva;let ⟨d,ye,hd2⟩:=hs (a.eval x) (c.args.toList.map a.eval) hu lQ;have fh:(resolve a.eval c o.type).run E.P w= .ok d w:=by
  simp only[resolve,hx];have:c.args.map a.eval=(c.args.toList.map a.eval).toArray:=Oi (by simp)
  rw[this];exact ye
 have fin:∀e w',KE e w'->(match e,w' with
   | .returned v,w''=>K (a.put o.dst v) w''
   | .panicked chain,w''=>Q (.panic chain) a w''
   | .outgrown,_=>LetsOut Q):=by
  intro e w' he;obtain ⟨fQ,r,rfl,h1,h2⟩:=hk e w' he;cases fQ with
  |false=>exact h1 rfl
  |true=>exact h2 rfl
 unfold wpOpIn;rw[hi];simp only;rw[ax (y4 dQ (by rw[An hT];exact hw))]
 refine ⟨Bl E.P w,?_⟩;rw[Oper.semAt_eq _ _ _ (λc' h=>by rw[dN] at h;cases h)]
 have hex:(execOp a.eval o).run E.P w=(invoke d.target d.args).run E.P w:=by
  simp only[execOp,dN,Sem.run_bind,fh,Result.andThen_ok]
 rw[hex];rcases hd2 with ⟨k,Kv,h1,h2⟩|⟨l,k,tmps,Kv,bo,h1,h2⟩|⟨r,w',h1,h2⟩
 ·rw[h1];refine ⟨λh=>by simp[sw] at h,?_⟩
  refine CallsIn.mono (F:=sw ro) (show CallsIn (sw ro) (m-1) E.P k Kv w _ from h2) ?_;intro e w' he;have:=fin e w' he;cases e<;>exact this
 ·rw[h1];refine ⟨λh=>by simp[sw] at h,?_⟩
  refine RoundIn.mono (F:=sw ro) (show RoundIn (sw ro) (m-1) E.P l k tmps Kv bo w _ from h2) ?_;intro e w' he;have:=fin e w' he;cases e<;>exact this
 ·rw[h1];exact fin _ w' h2
def aoc {nt:Nat} {all:fk} {T:Tf} (hi:all[i]? =some o) (hw:eD all.toList o T=some true) (hd:fS nt o.dst=true) (dN:o.op= .call c) (hc:pR T c.callee=some fv) (has:eI T c.args.toList=some aa) (hs:BF E false fv aa H nx v H' oA) (hD:∀x,D x=false->x<nx->H' x=H x) (hD2:∀x,D x=false->nx<=x->H' x=none):
  zh E ro nt all i o T (λx=>H x≠none) H (λx=>nx<=x) (λx=>nx<=x/\x<oA) v D H':=by
 intro m g f T1 a w K Q hE dQ hr hT XB jP hk;have uX:∀x y,H x=some y->f x=some y:=λx y hx=>by rw[XB x (by show H x≠none;rw[hx];simp),hx]
 have JR:HR g H w:=hr.sub uX;refine aie (g:=g) (H:=H) (nx:=nx) hi hw dN hc has dQ hT (λu us hu lQ=>hs (m-1) g w u us hE JR (λy hy=>jP y hy) hu lQ) ?_
 rintro e w' ⟨r,rfl,g',h1,h2,h3,h4,h5⟩;refine ⟨false,r,rfl,λ_=> ?_,λh=>by cases h⟩
 let ⟨q1,q2⟩:=alT hr uX (λy hy=>jP y hy) h2 h3 h4 hD hD2
 exact hk r w' g' ((dQ.mono h3.le).put hd h1) q1 q2 (λx hx=>by
  by_cases hl:x<nx
  ·exact h4 x hl
  ·rw[h5 x (by omega),jP x (by show nx<=x;omega)])
end
section
variable {E:Env} {g:Gh} {f:Hf} {w:World}
structure DS where
 T:Tf
 F:Hf
structure Stp where
 dst:da
 v:SV
 D:Nat->Bool
 H:Hf
def DS.app (s:DS) (u:Stp):DS:=⟨yF s.T u.dst u.v,oQ u.D u.H s.F⟩
def jn (us:Nat->Stp) (l:aI) (p:Nat->Bool) (s:DS):DS:=(l.filter p).foldl (λs j=>s.app (us j)) s
def Xi (us:Nat->Stp) (t:Nat) (p q:Nat->Bool):∀(l:aI) (s s2:DS),s.T t=s2.T t->(∀j∈l,(us j).dst=some t->p j=q j)->(jn us l p s).T t=(jn us l q s2).T t
 | [],s,s2,h,_=>h
 |j::l,s,s2,h,hpq=>by
  have rU:=λs s2 hs=>Xi us t p q l s s2 hs (λi hi=>hpq i (dR _ hi))
  have Et:∀s:DS,(s.app (us j)).T t=if (us j).dst=some t then some (us j).v else s.T t:=λs=>rfl
  unfold jn at rU ⊢;by_cases hl:(us j).dst=some t
  ·have:=hpq j (by simp) hl
   cases hp:p j
   ·rw[hp] at this;simp only[tH,hp,<-this];exact rU s s2 h
   ·rw[hp] at this;simp only[tH,hp,<-this,aF,Lq];exact rU _ _ (by rw[Et,Et,ax hl,ax hl])
  ·have key:∀s:DS,(s.app (us j)).T t=s.T t:=λs=>by rw[Et,aA hl]
   cases hp:p j<;>cases hq:q j<;>simp only[tH,hp,hq,aF,Lq,aK,aG]
   ·exact rU _ _ h
   ·exact rU _ _ (by rw[key];exact h)
   ·exact rU _ _ (by rw[key];exact h)
   ·exact rU _ _ (by rw[key,key];exact h)
def Xj (us:Nat->Stp) (x:Nat) (p q:Nat->Bool):∀(l:aI) (s s2:DS),s.F x=s2.F x->(∀j∈l,(us j).D x=true->p j=q j)->(jn us l p s).F x=(jn us l q s2).F x
 | [],s,s2,h,_=>h
 |j::l,s,s2,h,hpq=>by
  have rU:=λs s2 hs=>Xj us x p q l s s2 hs (λi hi=>hpq i (dR _ hi))
  have Et:∀s:DS,(s.app (us j)).F x=if (us j).D x=true then (us j).H x else s.F x:=λs=>rfl
  unfold jn at rU ⊢;by_cases hl:(us j).D x=true
  ·have:=hpq j (by simp) hl
   cases hp:p j
   ·rw[hp] at this;simp only[tH,hp,<-this];exact rU s s2 h
   ·rw[hp] at this;simp only[tH,hp,<-this,aF,Lq];exact rU _ _ (by rw[Et,Et,ax hl,ax hl])
  ·have key:∀s:DS,(s.app (us j)).F x=s.F x:=λs=>by rw[Et,aA hl]
   cases hp:p j<;>cases hq:q j<;>simp only[tH,hp,hq,aF,Lq,aK,aG]
   ·exact rU _ _ h
   ·exact rU _ _ (by rw[key];exact h)
   ·exact rU _ _ (by rw[key];exact h)
   ·exact rU _ _ (by rw[key,key];exact h)
def DS.ext' {s t:DS} (h1:∀u,s.T u=t.T u) (h2:∀k,s.F k=t.F k):s=t:=by
 cases s;cases t;simp only[DS.mk.injEq];exact ⟨funext h1,funext h2⟩
def Df (i n:Nat) (h:i<=n):(List.range' 0 n).filter (λj=>decide (j<i))=List.range' 0 i:=by
 obtain ⟨m,rfl⟩:=Nat.exists_eq_add_of_le h;rw[<-List.range'_append_1,List.filter_append];have h1:(List.range' 0 i).filter (λj=>decide (j<i))=List.range' 0 i:=Lp.2 λx hx=>by simp[oF] at hx;simpa using hx
 have h2:(List.range' (0+i) m).filter (λj=>decide (j<i))= []:=Lo.2 λx hx=>by simp[oF] at hx;simp;omega
 rw[h1,h2];simp
def YR (us:Nat->Stp) (p:Nat->Bool) (i n:Nat) (h:i<n) (hp:p i=true) (s:DS):jn us (List.range' 0 n) (λj=>p j&&decide (j<=i)) s=(jn us (List.range' 0 i) p s).app (us i):=by
 obtain ⟨m,rfl⟩:=Nat.exists_eq_add_of_lt h;have e:List.range' 0 (i+m+1)=List.range' 0 i++(i::List.range' (i+1) m):=by
  rw[show i+m+1=i+(m+1) from by omega,<-List.range'_append_1]
  simp[yo]
 unfold jn;rw[e,List.filter_append,tH];have h1:(List.range' 0 i).filter (λj=>p j&&decide (j<=i))=(List.range' 0 i).filter p:=Ln λx hx=>by simp[oF] at hx;simp;omega
 have h2:(List.range' (i+1) m).filter (λj=>p j&&decide (j<=i))= []:=Lo.2 λx hx=>by simp[oF] at hx;simp;omega
 rw[h1,h2];simp[hp]
def auD (l:Array Bool) (i j:Nat) (h:i<l.size) (d:Bool):(l.setIfInBounds i true).getD j d=if j=i then true else l.getD j d:=by
 simp only[qX,YH];by_cases hj:j=i
 ·subst hj;simp[h]
 ·simp[hj,zl hj]
def direct (ops:fk) (j:Nat):aI:=((ops[j]?).map jv).getD []
def rC (ops:fk):Nat->Nat->aI
 |0,_=> []
 |n+1,j=>direct ops j++(direct ops j).flatMap (rC ops n)
def Bj {ops:fk} {S:Nat->Prop} (hS:∀j,S j->∀i∈direct ops j,S i):∀(n j:Nat),S j->∀i∈rC ops n j,S i
 |0,_,_,i,hi=>by simp[rC] at hi
 |n+1,j,hj,i,hi=>by
  simp only[rC,ee,Lm] at hi;rcases hi with hi|⟨k,hk,hi⟩
  ·exact hS j hj i hi
  ·exact Bj hS n k (hS j hj k hk) i hi
def Qv {ops:fk} (hS:∀j,S j->∀i∈direct ops j,S i):∀(n j:Nat),(∀i∈direct ops j,S i)->∀i∈rC ops n j,S i
 |0,_,_,i,hi=>by simp[rC] at hi
 |n+1,j,hj,i,hi=>by
  simp only[rC,ee,Lm] at hi;rcases hi with hi|⟨k,hk,hi⟩
  ·exact hj i hi
  ·exact Bj hS n k (hj k hk) i hi
def GS {ops:fk}:i∈Region.ready .any ops cY↔i<ops.size/\cY.getD i true=false/\∀j∈direct ops i,cY.getD j false=true:=by
 unfold Region.ready;simp only[pH,List.mem_range,aY,Sw];constructor
 ·rintro ⟨h1,h2,h3⟩;refine ⟨h1,h2,λj hj=> ?_⟩
  unfold direct at hj;rw[pW h1] at hj h3;simp only[IM,yj,jv,dS,pH] at hj h3;obtain ⟨e,⟨he1,he2⟩,rfl⟩:=hj;rw[Array.all_eq_true'] at h3;have:=h3 e (by simpa using he1)
  simpa[he2] using this
 ·rintro ⟨h1,h2,h3⟩;refine ⟨h1,h2,?_⟩;rw[pW h1];simp only[IM,yj];rw[Array.all_eq_true'];intro e he;by_cases hb:Region.binds .any e=true
  ·have:=h3 e.on (by
    unfold direct;rw[pW h1];simp only[IM,yj,jv,dS,pH];exact ⟨e,⟨by simpa using he,hb⟩,rfl⟩)
   simp[this]
  ·simp[hb]
def HR.UU (h:HR g f w) (he:w'.heap=w.heap):HR g f w':=
 ⟨λid o ho=>by
  let ⟨b,c,q1,q2,q3⟩:=h.ob id o ho;exact ⟨b,c,q1,by rw[he];exact q2,q3.mono (.refl _) q1 (by rw[he])⟩,h.inj⟩
def Fr.UU (he:w'.heap=w.heap) (h1:w'.os=w.os) (h2:w'.tape=w.tape) (h3:w'.output=w.output):Fr g f w g f w':=
 ⟨h1,h2,h3,by rw[he];exact cF _,.refl _,λb _ _=>by rw[he],λ_ _ h=>h⟩
structure Ind (ops:fk) (us:Nat->Stp) (need:Nat->Nat->Prop) (i j:Nat):Prop where
 s1:∀t,(us i).dst=some t->∀o,ops[j]? =some o->t∉o.looksAt ops
 s2:∀t,(us j).dst=some t->∀o,ops[i]? =some o->t∉o.looksAt ops
 s3:∀t,(us i).dst=some t->(us j).dst≠some t
 d:∀x,(us i).D x=true->(us j).D x=false
 n1:∀x,need j x->(us i).D x=false
 n2:∀x,need i x->(us j).D x=false
def amh {nt:Nat} {ops:fk} {U:Nat->Stp} {frp newp:Nat->Nat->Prop} {s0:DS} (Hr:E.P.follows .mixedOrders=true) (Dz:∀i (hi:i<ops.size),¬S i->(U i).dst=ops[i].dst/\zh E ro nt ops i ops[i] (jn U (List.range' 0 i) (λ_=>true) s0).T (need i) (jn U (List.range' 0 i) (λ_=>true) s0).F (frp i) (newp i) (U i).v (U i).D (U i).H) (hd:∀j,j<ops.size->(∀i∈direct ops j,i<j)/\∀i,i<j->i∈rC ops ops.size j\/Ind ops U need i j) (AM:∀i k,i<ops.size->k<ops.size->i≠k->∀x,frp i x->newp k x->i∈rC ops ops.size k) {id:Nat} (hE:dP E g) (dQ:FR g nt s0.T a.tmps) (hr:HR g s0.F w) (jP:∀i,i<ops.size->∀x,frp i x->g.Z x=none) (aIg:∀i,i<ops.size->S i->i+1=ops.size/\(∀j,j<i->j∈rC ops ops.size i)/\∀(g1:Gh) (a1:Act) (w1:World) (K:Act->World->Prop),dP E g1->FR g1 nt (jn U (List.range' 0 i) (λ_=>true) s0).T a1.tmps->HR g1 (jn U (List.range' 0 i) (λ_=>true) s0).F w1->
   Fr g s0.F w g1 (jn U (List.range' 0 i) (λ_=>true) s0).F w1->a1.defers=a.defers->(∀x,g1.Z x≠g.Z x->∃k,k<i/\newp k x)->wpOpIn (sw ro) m E.P ops Q i K a1 w1) (hq:(∀i,i<ops.size->¬S i)->∀g' a' w',FR g' nt (jn U (List.range' 0 ops.size) (λ_=>true) s0).T a'.tmps->HR g' (jn U (List.range' 0 ops.size) (λ_=>true) s0).F w'->Fr g s0.F w g' (jn U (List.range' 0 ops.size) (λ_=>true) s0).F w'->a'.defers=a.defers->
   (∀x,(∀i,i<ops.size->¬newp i x)->g'.Z x=g.Z x)->Q .normal a' w'):(Code.region id ops true).wpIn (sw ro) m E.P Q a w:=by
 let n:=ops.size;have key:∀(fuel:Nat) (cY:Array Bool) (a1:Act) (w1:World) (g1:Gh),cY.size=n->(∀j,cY.getD j false=true->∀i∈direct ops j,cY.getD i false=true)->
   ((List.range' 0 n).filter (λj=> !cY.getD j false)).length=fuel->dP E g1->FR g1 nt (jn U (List.range' 0 n) (λj=>cY.getD j false) s0).T a1.tmps->HR g1 (jn U (List.range' 0 n) (λj=>cY.getD j false) s0).F w1->
   Fr g s0.F w g1 (jn U (List.range' 0 n) (λj=>cY.getD j false) s0).F w1->a1.defers=a.defers->(∀x,g1.Z x≠g.Z x->∃k,k<n/\cY.getD k false=true/\newp k x)->(∀j,cY.getD j false=true->¬S j)->wpAnyIn (sw ro) m E.P .any ops Q fuel cY a1 w1:=by
  intro fuel;induction fuel with
  |zero=>
   intro cY a1 w1 g1 mD gD abS hE1 US JQ hf1 hdf abM hns;have sY:∀j,j<n->cY.getD j false=true:=by
    intro j hj;have:=Lo.1 (ur abS) j (by simp[oF];exact hj)
    simpa using this
   have ig:jn U (List.range' 0 n) (λj=>cY.getD j false) s0=jn U (List.range' 0 n) (λ_=>true) s0:=by
    unfold jn;congr 1;exact Ln λx hx=>by simp[oF] at hx;simpa using sY x hx
   rw[ig] at US JQ hf1;refine ⟨?_,hq (λi hi=>hns i (sY i hi)) g1 a1 w1 US JQ hf1 hdf (λx hx=> ?_)⟩
   ·rw[List.eq_nil_iff_forall_not_mem];intro i hi;let ⟨h1,h2,_⟩:=GS.1 hi;have:=sY i h1;simp only[qX] at this h2;rw[pW (by rw[mD];exact h1)] at this h2
    simp at this h2;rw[this] at h2;simp at h2
   ·by_cases he:g1.Z x=g.Z x
    ·exact he
    ·let ⟨k,k1,_,k3⟩:=abM x he;exact absurd k3 (hx k k1)
  |succ fuel ih=>
   intro cY a1 w1 g1 mD gD abS hE1 US JQ hf1 hdf abM hns;have Iw:∀j,j<n->cY.getD j true=cY.getD j false:=by
    intro j hj;simp only[qX];rw[pW (by rw[mD];exact hj)];rfl
   refine ⟨λhr=> ?_,λi hi=> ?_⟩
   ·exfalso;have bY:(List.range' 0 n).filter (λj=> !cY.getD j false)≠ []:=by intro he;rw[he] at abS;simp at abS
    let ⟨i0,hi0⟩:=mQ _ bY;have hex:∃i,i<n/\cY.getD i false=false:=⟨i0,by simp[oF] at hi0;exact hi0.1,by simp at hi0;simpa using hi0.2⟩
    have:∀m,(∃i,i<=m/\i<n/\cY.getD i false=false)->∃i,i<n/\cY.getD i false=false/\∀j,j<i->cY.getD j false=true:=by
     intro m;induction m with
     |zero=>rintro ⟨i,h1,h2,h3⟩;exact ⟨i,h2,h3,λj hj=>by omega⟩
     |succ m ihm=>
      rintro ⟨i,h1,h2,h3⟩;by_cases hj:∃j,j<i/\cY.getD j false=false
      ·let ⟨j,hj1,hj2⟩:=hj;exact ihm ⟨j,by omega,by omega,hj2⟩
      ·exact ⟨i,h2,h3,λj jB=>by
        cases hq:cY.getD j false with
        |true=>rfl
        |false=>exact absurd ⟨j,jB,hq⟩ hj⟩
    let ⟨i,AL,tZ⟩:=hex;let ⟨k,k1,k2,k3⟩:=this i ⟨i,cF _,AL,tZ⟩;have:k∈Region.ready .any ops cY:=GS.2 ⟨k1,by rw[Iw k k1];exact k2,λj hj=>k3 j ((hd k k1).1 j hj)⟩
    rw[hr] at this;simp at this
   ·let ⟨AL,tZ,hi3⟩:=GS.1 hi;rw[Iw i AL] at tZ;by_cases hSi:S i
    ·let ⟨XD,sY,uM⟩:=aIg i AL hSi;have hli:∀j,j<i->cY.getD j false=true:=λj hj=>Qv (S:=λj=>cY.getD j false=true) gD n i hi3 j (sY j hj)
     have ig:jn U (List.range' 0 n) (λj=>cY.getD j false) s0=jn U (List.range' 0 i) (λ_=>true) s0:=by
      unfold jn;have:(List.range' 0 n).filter (λj=>cY.getD j false)=(List.range' 0 i).filter (λ_=>true):=by
       rw[Lp.2 (λ_ _=>rfl),<-Df i n (Nat.le_of_lt AL)]
       refine Ln λx hx=> ?_
       have hxn:x<n:=by simp[oF] at hx;exact hx
       by_cases hxi:x<i
       ·simp only[hli x hxi,hxi,aW]
       ·have:x=i:=by omega
        subst this;simp only[tZ,Nat.lt_irrefl,bg]
      rw[this]
     rw[ig] at US JQ hf1;refine uM g1 a1 w1 _ hE1 US JQ hf1 hdf (λx hx=> ?_)
     let ⟨k,k1,k2,k3⟩:=abM x hx;refine ⟨k,?_,k3⟩;by_cases hk:k=i
     ·subst hk;rw[tZ] at k2;simp at k2
     ·omega
    let ⟨hdst,hs⟩:=Dz i AL hSi;have hoi:ops[i]? =some ops[i]:=pW AL;have aqQ:∀j,j<i->cY.getD j false=false->Ind ops U need j i:=by
     intro j hj hl;rcases (hd i AL).2 j hj with hc|hc
     ·have:=Qv (S:=λj=>cY.getD j false=true) gD n i hi3 j hc
      rw[hl] at this;simp at this
     ·exact hc
    have XC:∀j,i<j->j<n->cY.getD j false=true->Ind ops U need i j:=by
     intro j hj hjn hl;rcases (hd j hjn).2 i hj with hc|hc
     ·have:=Bj (S:=λj=>cY.getD j false=true) gD n j hl i hc
      rw[tZ] at this;simp at this
     ·exact hc
    have hst0:jn U (List.range' 0 i) (λ_=>true) s0=jn U (List.range' 0 n) (λj=>decide (j<i)) s0:=by
     unfold jn;rw[Df i n (Nat.le_of_lt AL)];congr 1;exact Lp.2 (λ_ _=>rfl)
    have hT:∀t∈(ops[i]).looksAt ops,(jn U (List.range' 0 n) (λj=>cY.getD j false) s0).T t=(jn U (List.range' 0 i) (λ_=>true) s0).T t:=by
     intro t htr;rw[hst0];refine Xi U t _ _ _ _ _ rfl (λj hj yO=> ?_)
     have hjn:j<n:=by simp[oF] at hj;exact hj
     rcases Nat.lt_trichotomy j i with bD|heq|hgt
     ·cases hl:cY.getD j false with
      |true=>simp[bD]
      |false=>exact absurd htr ((aqQ j bD hl).s1 t yO _ hoi)
     ·subst heq;simp[tZ]
     ·cases hl:cY.getD j false with
      |false=>simp;omega
      |true=>exact absurd htr ((XC j hgt hjn hl).s2 t yO _ hoi)
    have hB:∀x,need i x->(jn U (List.range' 0 n) (λj=>cY.getD j false) s0).F x=(jn U (List.range' 0 i) (λ_=>true) s0).F x:=by
     intro x hx;rw[hst0];refine Xj U x _ _ _ _ _ rfl (λj hj yO=> ?_)
     have hjn:j<n:=by simp[oF] at hj;exact hj
     rcases Nat.lt_trichotomy j i with bD|heq|hgt
     ·cases hl:cY.getD j false with
      |true=>simp[bD]
      |false=>
       have:=(aqQ j bD hl).n1 x hx;rw[yO] at this;simp at this
     ·subst heq;simp[tZ]
     ·cases hl:cY.getD j false with
      |false=>simp;omega
      |true=>
       have:=(XC j hgt hjn hl).n2 x hx;rw[yO] at this;simp at this
    have lD:∀j,(cY.setIfInBounds i true).getD j false=if j=i then true else cY.getD j false:=λj=>auD cY i j (by rw[mD];exact AL) false
    have hpi:(cY.setIfInBounds i true).getD i false=true:=by rw[lD];simp
    have axf:(jn U (List.range' 0 n) (λj=>cY.getD j false) s0).app (U i)=jn U (List.range' 0 n) (λj=>(cY.setIfInBounds i true).getD j false) s0:=by
     refine DS.ext' (λt=> ?_) (λx=> ?_)
     ·show (if (U i).dst=some t then some (U i).v else _)=_
      by_cases hl:(U i).dst=some t
      ·have e:=Xi U t (λj=>(cY.setIfInBounds i true).getD j false) (λj=>(cY.setIfInBounds i true).getD j false&&decide (j<=i)) (List.range' 0 n) s0 s0 rfl (λj hj yO=>by
        have hjn:j<n:=by simp[oF] at hj;exact hj
        by_cases hle:j<=i
        ·simp[hle]
        ·cases hlj:(cY.setIfInBounds i true).getD j false with
         |false=>simp
         |true=>
          rw[lD,aA (by omega)] at hlj
          exact absurd yO ((XC j (by omega) hjn hlj).s3 t hl))
       rw[e,YR U _ i n AL hpi,ax hl];show _=if (U i).dst=some t then some (U i).v else _
       rw[ax hl]
      ·rw[aA hl];refine Xi U t _ _ _ _ _ rfl (λj hj yO=> ?_)
       rw[lD];split
       ·rename_i he;subst he;exact absurd yO hl
       ·rfl
     ·show (if (U i).D x=true then (U i).H x else _)=_
      by_cases hl:(U i).D x=true
      ·have e:=Xj U x (λj=>(cY.setIfInBounds i true).getD j false) (λj=>(cY.setIfInBounds i true).getD j false&&decide (j<=i)) (List.range' 0 n) s0 s0 rfl (λj hj yO=>by
        have hjn:j<n:=by simp[oF] at hj;exact hj
        by_cases hle:j<=i
        ·simp[hle]
        ·cases hlj:(cY.setIfInBounds i true).getD j false with
         |false=>simp
         |true=>
          rw[lD,aA (by omega)] at hlj
          have:=(XC j (by omega) hjn hlj).d x hl
          rw[yO] at this;simp at this)
       rw[e,YR U _ i n AL hpi,ax hl];show _=if (U i).D x=true then (U i).H x else _
       rw[ax hl]
      ·rw[aA hl];refine Xj U x _ _ _ _ _ rfl (λj hj yO=> ?_)
       rw[lD];split
       ·rename_i he;subst he;exact absurd yO hl
       ·rfl
    have hcl':∀j,(cY.setIfInBounds i true).getD j false=true->∀k∈direct ops j,(cY.setIfInBounds i true).getD k false=true:=by
     intro j hj k hk;rw[lD] at hj ⊢;split
     ·rfl
     ·split at hj
      ·rename_i he;subst he;exact hi3 k hk
      ·exact gD j hj k hk
    have aIn:((List.range' 0 n).filter (λj=> !(cY.setIfInBounds i true).getD j false)).length=fuel:=by
     have h1:(List.range' 0 n).filter (λj=> !(cY.setIfInBounds i true).getD j false)=((List.range' 0 n).filter (λj=> !cY.getD j false)).erase i:=by
      have yc:((List.range' 0 n).filter (λj=> !cY.getD j false)).Nodup:=List.Pairwise.filter _ List.nodup_range'
      rw[yc.erase_eq_filter,List.filter_filter];refine Ln λx hx=> ?_
      rw[lD];by_cases hxi:x=i<;>simp[hxi]
     rw[h1,List.length_erase_of_mem (pH.2 ⟨by simp[oF];exact AL,by rw[tZ];rfl⟩),abS]
     rfl
    have abQ:∀x,frp i x->g1.Z x=none:=by
     intro x hx;by_cases he:g1.Z x=g.Z x
     ·rw[he];exact jP i AL x hx
     ·let ⟨k,k1,k2,k3⟩:=abM x he;have bY:i≠k:=λe=>by subst e;rw[tZ] at k2;simp at k2
      have:=Bj (S:=λj=>cY.getD j false=true) gD n k k2 i (AM i k AL k1 bY x hx k3)
      rw[tZ] at this;simp at this
    refine hs m g1 _ _ a1 w1 (wpAnyIn (sw ro) m E.P .any ops Q fuel (cY.setIfInBounds i true)) Q hE1 US JQ hT hB abQ (λr w' g' q1 q2 q3 q4=> ?_)
    rw[<-hdst] at q1 ⊢;have e1:yF (jn U (List.range' 0 n) (λj=>cY.getD j false) s0).T (U i).dst (U i).v=(jn U (List.range' 0 n) (λj=>(cY.setIfInBounds i true).getD j false) s0).T:=by rw[<-axf];rfl
    have e2:oQ (U i).D (U i).H (jn U (List.range' 0 n) (λj=>cY.getD j false) s0).F=(jn U (List.range' 0 n) (λj=>(cY.setIfInBounds i true).getD j false) s0).F:=by rw[<-axf];rfl
    rw[e1] at q1;rw[e2] at q2 q3;refine ih (cY.setIfInBounds i true) _ w' g' (by simpa using mD) hcl' aIn (hE1.mono q3.le) q1 q2 (hf1.trans q3) (by rw[put_defers];exact hdf) (λx hx=> ?_) ?_
    ·by_cases hn:newp i x
     ·exact ⟨i,AL,hpi,hn⟩
     rw[q4 x hn] at hx;let ⟨k,k1,k2,k3⟩:=abM x hx;refine ⟨k,k1,?_,k3⟩;rw[lD];split
     ·rfl
     ·exact k2
    ·intro j hj;rw[lD] at hj;split at hj
     ·rename_i e;subst e;exact hSi
     ·exact hns j hj
 refine wpIn_region_any (F:=sw ro) Hr (key ops.size _ a _ g (by simp[n]) ?_ ?_ hE ?_ ?_ ?_ rfl (λx hx=>absurd rfl hx) ?_)
 ·intro j hj;simp[qX,Ll] at hj;split at hj<;>simp at hj
 ·have:(List.range' 0 n).filter (λj=> !(Array.replicate ops.size false).getD j false)=List.range' 0 n:=Lp.2 λx hx=>by
   simp[qX,Ll];split<;>simp
  rw[this];simp[n]
 rotate_left 3
 ·intro j hj;simp[qX,Ll] at hj;split at hj<;>simp at hj
 all_goals
  have hs0:jn U (List.range' 0 n) (λj=>(Array.replicate ops.size false).getD j false) s0=s0:=by
   unfold jn;have:(List.range' 0 n).filter (λj=>(Array.replicate ops.size false).getD j false)= []:=Lo.2 λx hx=>by
    simp[qX,Ll];split<;>simp
   rw[this];rfl
  rw[hs0]
 ·exact dQ
 ·exact hr.UU rfl
 ·exact Fr.UU rfl rfl rfl rfl
end
section
variable {E:Env} {g:Gh} {f:Hf} {w:World}
def force_eq (m:Nat) (k:Nat->O):force m k=k m:=by cases m<;>rfl
def acK (m i:Nat):jQ m i=true↔m.testBit i=true:=by
 unfold jQ;rw[beq_iff];show (m>>>i) &&& 1=1↔_;rw[Nat.and_one_is_mod,Nat.testBit_eq_decide_div_mod_eq,Nat.shiftRight_eq_div_pow];simp
def Wj {ops:fk} (h:ops[j]? =some o):direct ops j=jv o:=by simp[direct,h]
def HU {ops:fk}:∀(n m j:Nat),n<=m->∀i∈rC ops n j,i∈rC ops m j
 |0,m,j,_,i,h=>by simp[rC] at h
 |n+1,0,j,hle,_,_=>by omega
 |n+1,m+1,j,hle,i,h=>by
  simp only[rC,ee,Lm] at h ⊢;rcases h with h|⟨d,hd,h⟩
  ·exact .inl h
  ·exact .inr ⟨d,hd,HU n m d (by omega) i h⟩
def KJ (ops:fk) (W M j:Nat):Prop:=∀p,M.testBit p=true->∃i b,i<j/\b<W/\p=i*W+b/\b∈rC ops (i+1) i
def asT {W b i' b':Nat} (h:i*W+b=i'*W+b') (h1:b<W) (h2:b'<W):i=i'/\b=b':=by
 have e1:(i*W+b) / W=i:=by rw[Nat.mul_comm,Nat.mul_add_div (by omega),Nat.div_eq_of_lt h1];omega
 have e2:(i'*W+b') / W=i':=by rw[Nat.mul_comm,Nat.mul_add_div (by omega),Nat.div_eq_of_lt h2];omega
 have:i=i':=by rw[<-e1,<-e2,h]
 subst this;exact ⟨rfl,by omega⟩
def M9 {ops:fk} {W M j:Nat} (hM:KJ ops W M j) {x:Nat}:∀(ds:aI),(mN W M ds).testBit x=true->∃i∈ds,x=i\/(i<j/\x∈rC ops (i+1) i)
 | [],h=>by simp[mN] at h
 |d::ds,h=>by
  have h:(mN W M ds|||((1<<<d)|||((M>>>(d*W)) % 2 ^ W))).testBit x=true:=h;rw[Sn,Sn,oG,oG] at h;rcases h with h|h|h
  ·let ⟨i,hi,h⟩:=M9 hM ds h;exact ⟨i,by simp[hi],h⟩
  ·rw[Nat.shiftLeft_eq,kO,Nat.testBit_two_pow] at h;exact ⟨d,by simp,.inl (by simpa using h.symm:d=x).symm⟩
  ·rw[agF,aY,Nat.testBit_shiftRight] at h;let ⟨h1,h2⟩:=h;let ⟨i,b,q1,q2,q3,q4⟩:=hM _ h2;have hx:x<W:=by simpa using h1
   obtain ⟨rfl,rfl⟩:=asT q3 hx q2;exact ⟨d,by simp,.inr ⟨q1,q4⟩⟩
def D3 {j:Nat}:∀{l:aI},nj j l=true->∀i∈l,i<j
 | [],_,i,hi=>by simp at hi
 |x::l,h,i,hi=>by
  unfold nj at h;rw[bk] at h;split at h
  ·rename_i hx;rcases bB.1 hi with rfl|hi
   ·exact (cN _ _).1 hx
   ·exact D3 h i hi
  ·simp at h
def VY {ops:fk} {W M:Nat} (hj:ops[j]? =some o) (hM:KJ ops W M j):
  (∀x,(Nat.mod (mN W M (jv o)) (Nat.pow 2 W)).testBit x=true->x<W/\x∈rC ops (j+1) j)/\
  KJ ops W (Nat.lor M (Nat.shiftLeft (Nat.mod (mN W M (jv o)) (Nat.pow 2 W)) (Nat.mul j W))) (j+1):=by
 have hdir:=Wj hj;have hbit:∀x,(mN W M (jv o) % 2 ^ W).testBit x=true->x<W/\x∈rC ops (j+1) j:=by
  intro x hx;rw[agF,aY] at hx;refine ⟨by simpa using hx.1,?_⟩
  let ⟨i,hi,h⟩:=M9 hM (jv o) hx.2;rw[<-hdir] at hi;simp only[rC,ee,Lm];rcases h with rfl|⟨q1,q2⟩
  ·exact .inl hi
  ·exact .inr ⟨i,hi,HU (i+1) j i (by omega) x q2⟩
 refine ⟨hbit,λp hp=> ?_⟩
 have hp:(M|||((mN W M (jv o) % 2 ^ W)<<<(j*W))).testBit p=true:=hp;rw[Sn,oG] at hp;rcases hp with hp|hp
 ·let ⟨i,b,q1,q2,q3,q4⟩:=hM p hp;exact ⟨i,b,by omega,q2,q3,q4⟩
 ·rw[Nat.testBit_shiftLeft,aY] at hp;let ⟨p1,p2⟩:=hp;let ⟨q1,q2⟩:=hbit _ p2;have p1:j*W<=p:=by simpa using p1
  exact ⟨j,p-j*W,by omega,q1,by omega,q2⟩
def qx (x:Nat):∀(l:aI),ke x l=true↔x∈l
 | []=>by simp[ke]
 |y::l=>by
  unfold ke;rw[bk,beq_eq];by_cases h:x=y
  ·simp[h]
  ·simp only[h,bg,aK,aG,bB,false_or];exact qx x l
def rZ:∀{l m:aI},qo l m=true->∀x∈l,x∉m
 | [],_,_,x,hx=>by simp at hx
 |y::l,m,h,x,hx=>by
  unfold qo at h;rw[bk] at h;split at h
  ·simp at h
  ·rename_i hm;rcases bB.1 hx with rfl|hx
   ·exact λhc=>hm ((qx _ _).2 hc)
   ·exact rZ h x hx
def wN {lo hi:Nat}:∀{l:aI},rN lo hi l=true->∀x∈l,x<lo\/hi<=x
 | [],_,x,hx=>by simp at hx
 |y::l,h,x,hx=>by
  unfold rN at h;rw[bk,bk] at h;split at h
  ·rename_i h1;rcases bB.1 hx with rfl|hx
   ·exact .inl ((cN _ _).1 h1)
   ·exact wN h x hx
  ·split at h
   ·rename_i h1;rcases bB.1 hx with rfl|hx
    ·exact .inr ((cN _ _).1 h1)
    ·exact wN h x hx
   ·simp at h
def aba {l:aI} (h:En l=true):l= []:=by
 cases l with
 |nil=>rfl
 |cons _ _=>simp[En] at h
def vO {m:Nat} {r:Rc}:∀{ps:List Rc},gM m r ps=true->∀p∈ps,jQ m p.i=true\/Fu p r=true
 | [],_,p,hp=>by simp at hp
 |q::ps,h,p,hp=>by
  unfold gM at h;rw[bk,bk] at h;split at h
  ·rename_i h1;rcases bB.1 hp with rfl|hp
   ·exact .inl h1
   ·exact vO h p hp
  ·split at h
   ·rename_i h1;rcases bB.1 hp with rfl|hp
    ·exact .inr h1
    ·exact vO h p hp
   ·simp at h
structure QF (p r:Rc):Prop where
 a1:∀x∈r.rd,x<p.lo\/p.hi<=x
 a2:∀x∈r.wr,x<p.lo\/p.hi<=x
 a3:∀x∈p.rd,x<r.lo\/r.hi<=x
 a4:∀x∈p.wr,x<r.lo\/r.hi<=x
 b1:∀x∈p.rd,x∉r.wr
 b2:∀x∈r.rd,x∉p.wr
 b3:∀x∈p.wr,x∉r.wr
 c1:p.call=true->r.call=false/\r.wr= []
 c2:r.call=true->p.call=false/\p.wr= []
def No {p r:Rc} (h:Fu p r=true):QF p r:=by
 unfold Fu at h;simp only[aY] at h;let ⟨h1,h2,h3,h4,h5,h6,h7,h8⟩:=h;refine ⟨wN h1,wN h2,wN h3,wN h4,rZ h5,rZ h6,rZ h7,λhp=> ?_,λhr=> ?_⟩
 ·rw[hp] at h8;cases hr:r.call with
  |true=>rw[hr] at h8;cases h8
  |false=>rw[hr] at h8;exact ⟨rfl,aba h8⟩
 ·rw[hr] at h8;cases hp:p.call with
  |true=>rw[hp] at h8;cases h8
  |false=>rw[hp] at h8;exact ⟨rfl,aba h8⟩
def agM:∀(xs:List Operand),YN xs=xs.filterMap fun| .tmp t=>some t|_=>none
 | []=>rfl
 |x::xs=>by
  have ih:=agM xs;cases x<;>simp[YN,ih]
def abf (ops:fk) (o:Oper):looks ops.toList o=o.looksAt ops:=by
 unfold looks Oper.looksAt;rw[agM];cases hg:o.guard with
 |none=>rfl
 |some p=>
  let ⟨j,b⟩:=p;simp only[Dk,mL];rfl
def Ap {all:bS} {m:Nat} {r:Oper}:∀{k:Nat} {ps:bS},BW all m r k ps=true->ps.length=k+1\/ps= []->∀j p,ps[j]? =some p->jQ m (k-j)=true\/E6 all p r=true
 |k,[],_,_,j,p,hp=>by simp at hp
 |k,q::ps,h,hl,j,p,hp=>by
  unfold BW at h;rw[bk,bk] at h;have hl':ps.length=Nat.sub k 1+1\/ps= []:=by
   rcases hl with hl|hl
   ·simp at hl;cases k with
    |zero=>exact .inr (ur (by omega))
    |succ k=>exact .inl (by show ps.length=k+1-1+1;omega)
   ·simp at hl
  have hk:∀(j:Nat),ps[j]? =some p->Nat.sub k 1-j=k-(j+1):=λj _=>by show k-1-j=k-(j+1);omega
  split at h
  ·rename_i h1;cases j with
   |zero=>simp at hp;subst hp;exact .inl h1
   |succ j=>simp at hp;have:=Ap h hl' j p hp;rw[hk j hp] at this;exact this
  ·split at h
   ·rename_i h1;cases j with
    |zero=>simp at hp;subst hp;exact .inr h1
    |succ j=>simp at hp;have:=Ap h hl' j p hp;rw[hk j hp] at this;exact this
   ·simp at h
def I7 {ops:fk} {W:Nat}:∀(l:bS) (i M:Nat) (prev:bS),BA W ops.toList l i M prev=true->ops.toList.drop i=l->prev=(ops.toList.take i).reverse->KJ ops W M i->
  ∀j,i<=j->j<ops.size->∀k,k<j->∀p r,ops[k]? =some p->ops[j]? =some r->k∈rC ops (j+1) j\/E6 ops.toList p r=true
 | [],i,M,prev,h,hd,_,_,j,hj,jB,_,_,_,_,_,_=>by
  have:ops.size<=i:=by simpa using hd
  omega
 |o::l,i,M,prev,h,hd,hp,hM,j,hj,jB,k,hk,p,r,AK,hr=>by
  have hi:i<ops.toList.length:=by
   by_cases hl:i<ops.toList.length
   ·exact hl
   ·rw[qY (by omega)] at hd;simp at hd
  rw[se hi] at hd;let ⟨ho,hl⟩:=OE hd;have hoi:ops[i]? =some o:=by
   have:ops.toList[i]? =some o:=by rw[dW hi,ho]
   simpa using this
  unfold BA at h;rw[force_eq,bk] at h;split at h
  ·rename_i hs;rw[force_eq] at h;let ⟨m1,m2⟩:=VY hoi hM;by_cases hji:j=i
   ·subst hji;rw[hoi] at hr;obtain rfl:o=r:=by simpa using hr
    have hpl:prev.length=j:=by rw[hp];simp at hi ⊢;omega
    have hg:prev[j-1-k]? =some p:=by
     rw[hp,List.getElem?_reverse (by simp at hi ⊢;omega)]
     simp at hi ⊢;rw[eg (by omega),eR,ax (by omega)]
     have:j-1-(j-1-k)=k:=by omega
     rw[this];simpa using AK
    rcases Ap hs (by
     cases hpp:prev with
     |nil=>exact .inr rfl
     |cons a b=>rw[hpp] at hpl;left;simp at hpl ⊢;show b.length=j-1;omega) (j-1-k) p hg with hb|hb
    ·have e:Nat.sub j 1-(j-1-k)=k:=by show j-1-(j-1-k)=k;omega
     rw[e] at hb;exact .inl (m1 k ((acK _ _).1 hb)).2
    ·exact .inr hb
   ·refine I7 l (i+1) _ (o::prev) h hl ?_ m2 j (by omega) jB k hk p r AK hr
    have:ops.toList.take (i+1)=ops.toList.take i++ [o]:=by
     rw[wB,dW hi,ho];rfl
    rw[this,List.reverse_append,hp];rfl
  ·simp at h
end
section
variable {E:Env} {g:Gh} {w:World} {nt W base:Nat} {ops:fk}
structure St where
 u:Stp
 rc:Rc
 m:Nat
 need:Nat->Prop
 frp:Nat->Prop
 newp:Nat->Prop
instance:Inhabited St:=⟨⟨⟨none,.undef,λ_=>false,λ_=>none⟩,⟨0,false,[],[],0,0⟩,0,λ_=>False,λ_=>False,λ_=>False⟩⟩
structure Cnd (E:Env) (nt W:Nat) (ops:fk) (base i:Nat) (prev:List St) (o:Oper) (T:Tf) (F:Hf) (nx:Nat) (s:St) (Ju:Nat):Prop where
 dst:s.u.dst=o.dst
 step:∀ro,zh E ro nt ops i o T s.need F s.frp s.newp s.u.v s.u.D s.u.H
 lt:∀d∈jv o,d<i
 rC:∀b,jQ s.m b=true->b∈rC ops (i+1) i
 rci:s.rc.i=i
 ind:∀p∈prev,jQ s.m p.rc.i=true\/QF p.rc s.rc
 D:∀x,s.u.D x=true↔(x∈s.rc.wr\/(s.rc.lo<=x/\x<s.rc.hi))
 Io:s.rc.call=false->s.rc.lo=base+i/\s.rc.hi=base+i+1/\Ju=nx/\(∀x,s.need x->x∈s.rc.rd)/\(∀x,s.frp x->x=base+i)/\∀x,s.newp x->x=base+i
 cal:s.rc.call=true->s.rc.lo=nx/\s.rc.hi=Ju/\(∀x,s.need x->F x≠none/\∀p∈prev,jQ s.m p.rc.i=false->x≠p.rc.lo)/\(∀x,s.frp x->nx<=x)/\∀x,s.newp x->nx<=x/\x<Ju
 Uz:nx<=Ju
 bd:∀x,F x≠none->¬(base+i<=x/\x<base+W)
 base:base+W<=nx
inductive DT (E:Env) (nt W:Nat) (ops:fk) (base:Nat):Nat->List St->bS->Tf->Hf->Nat->Tf->Hf->Nat->List St->Prop
 |nil {i prev T F nx:_}:DT E nt W ops base i prev [] T F nx T F nx prev
 |cons {i prev o l T F nx s Ju T' F' oA out:_} (c:Cnd E nt W ops base i prev o T F nx s Ju) (h:DT E nt W ops base (i+1) (s::prev) l (yF T s.u.dst s.u.v) (oQ s.u.D s.u.H F) Ju T' F' oA out):DT E nt W ops base i prev (o::l) T F nx T' F' oA out
def VL (U:Nat->Stp) (i j:Nat) (s:DS):jn U (List.range' i (j+1)) (λ_=>true) s=jn U (List.range' (i+1) j) (λ_=>true) (s.app (U i)):=by
 simp[jn,yo]
def DT.steps {prev:List St} {T:Tf} {T':Tf} {out:List St} (h:DT E nt W ops base i prev l T F nx T' F' oA out):prev.length=i->
  out.length=i+l.length/\(∃new,out=new++prev)/\∃NX:Nat->Nat,NX i=nx/\NX (i+l.length)=oA/\
   (∀j o,l[j]? =some o->∃s,out.reverse[i+j]? =some s/\Cnd E nt W ops base (i+j) (out.drop (out.length-(i+j))) o (jn (λx=>(out.reverse.getD x default).u) (List.range' i j) (λ_=>true) ⟨T,F⟩).T
    (jn (λx=>(out.reverse.getD x default).u) (List.range' i j) (λ_=>true) ⟨T,F⟩).F (NX (i+j)) s (NX (i+j+1)))/\
   (⟨T',F'⟩:DS)=jn (λx=>(out.reverse.getD x default).u) (List.range' i l.length) (λ_=>true) ⟨T,F⟩:=by
 induction h with
 |nil=>
  intro hp;exact ⟨by simpa using hp,⟨[],rfl⟩,λ_=>_,rfl,rfl,by simp,by simp[jn]⟩
 | @cons i prev o l T F nx s Ju T' F' oA out c h ih=>
  intro hp;let ⟨q1,⟨new,q2⟩,NX,q3,q4,q5,q6⟩:=ih (by simp[hp])
  have hsi:out.reverse[i]? =some s:=by
   rw[q2];rw[List.reverse_append,List.reverse_cons,kN,qW (by simp;omega)]
   simp[hp]
  have hU:(out.reverse.getD i default).u=s.u:=by rw[Lk,hsi];rfl
  have Et:(⟨T,F⟩:DS).app (out.reverse.getD i default).u=⟨yF T s.u.dst s.u.v,oQ s.u.D s.u.H F⟩:=by rw[hU];rfl
  refine ⟨by simp;omega,⟨new++ [s],by simp[q2]⟩,λk=>if k=i then nx else NX k,by simp,?_,?_,?_⟩
  ·simp only[mM];rw[aA (by omega)]
   rw[<-q4];congr 1;omega
  ·intro j o' ho;cases j with
   |zero=>
    simp at ho;subst ho;refine ⟨s,by simpa using hsi,?_⟩
    have e1:(if i+0+1=i then nx else NX (i+0+1))=Ju:=by rw[aA (by omega)];exact q3
    have e2:(if i+0=i then nx else NX (i+0))=nx:=by simp
    have e3:out.drop (out.length-(i+0))=prev:=by
     rw[q2];have:(new++s::prev).length-(i+0)=(new++ [s]).length:=by simp;omega
     rw[this,show new++s::prev=(new++ [s])++prev from by simp]
     simp
    simp only[e1,e2,e3];exact c
   |succ j=>
    simp at ho;let ⟨s',r1,r2⟩:=q5 j o' ho;refine ⟨s',by rw[<-r1];congr 1;omega,?_⟩
    have a1:i+(j+1)=i+1+j:=by omega
    rw[VL,Et,a1];simp only[aA (show ¬i+1+j=i by omega),aA (show ¬i+1+j+1=i by omega)]
    exact r2
  ·rw[mM,VL,Et];exact q6
def afR {p r:Oper} (h:E6 ops.toList p r=true):(∀t,p.dst=some t->t∉r.looksAt ops)/\(∀t,r.dst=some t->t∉p.looksAt ops)/\∀t,p.dst=some t->r.dst≠some t:=by
 unfold E6 at h;rw[aY,aY,abf,abf] at h;let ⟨h1,h2,h3⟩:=h;refine ⟨λt ht=>rZ h1 t (by simp[ht]),λt ht=>rZ h2 t (by simp[ht]),λt ht hr=>rZ h3 t (by simp[ht]) (by simp[hr])⟩
def afZ {T T':Tf} {out:List St} (hs:BA ops.size ops.toList ops.toList 0 0 []=true) (Hr:E.P.follows .mixedOrders=true) (hpre:ops.toList.take l0.length=l0) (hdt:DT E nt ops.size ops base 0 [] l0 T F nx T' F' oA out) (hbn:base<=nx) {id:Nat} (hE:dP E g) (dQ:FR g nt T a.tmps) (hr:HR g F w) (jP:∀x,base<=x->g.Z x=none) (Es:l0.length=ops.size\/(l0.length+1=ops.size/\(∀d∈direct ops l0.length,d<l0.length)/\(∀j,j<l0.length->j∈rC ops ops.size l0.length)/\∀(g':Gh) (a':Act) (w':World) (K:Act->World->Prop),dP E g'->FR g' nt T' a'.tmps->HR g' F' w'->Fr g F w g' F' w'->a'.defers=a.defers->
   (∀x,x<base->g'.Z x=g.Z x)->(∀x,oA<=x->g'.Z x=none)->wpOpIn (sw ro) m E.P ops Q l0.length K a' w')) (hq:l0.length=ops.size->∀g' a' w',FR g' nt T' a'.tmps->HR g' F' w'->Fr g F w g' F' w'->a'.defers=a.defers->(∀x,x<base->g'.Z x=g.Z x)->(∀x,oA<=x->g'.Z x=none)->Q .normal a' w'):(Code.region id ops true).wpIn (sw ro) m E.P Q a w:=by
 let ⟨ol,_,NX,n0,n1,cnd,fin⟩:=hdt.steps rfl;simp only[cE] at ol n1 cnd fin;have hnn:l0.length<=ops.size:=by rcases Es with h|h<;>omega
 have dN:∀j (hj:j<l0.length),l0[j]? =some (ops[j]'(by omega)):=by
  intro j hj;have h1:(ops.toList.take l0.length)[j]? =some (ops[j]'(by omega)):=by
   rw[eR,ax hj];simp[show j<ops.size by omega]
  rw[hpre] at h1;exact h1
 let S:Nat->St:=λx=>out.reverse.getD x default
 have hS:∀j (hj:j<l0.length),Cnd E nt ops.size ops base j (out.drop (out.length-j)) (ops[j]'(by omega)) (jn (λx=>(S x).u) (List.range' 0 j) (λ_=>true) ⟨T,F⟩).T (jn (λx=>(S x).u) (List.range' 0 j) (λ_=>true) ⟨T,F⟩).F (NX j) (S j) (NX (j+1)):=by
  intro j hj;let ⟨s,r1,r2⟩:=cnd j (ops[j]'(by omega)) (dN j hj)
  have:S j=s:=by simp only[S,Lk,r1];rfl
  rw[this];exact r2
 have aIj:∀d j,j+d<=l0.length->NX j<=NX (j+d):=by
  intro d;induction d with
  |zero=>intro j _;exact cF _
  |succ d ih=>intro j hj;exact iL (ih j (by omega)) ((hS (j+d) (by omega)).Uz)
 have P0:∀j k,j<=k->k<=l0.length->NX j<=NX k:=λj k h1 h2=>by
  have:=aIj (k-j) j (by omega)
  rwa[show j+(k-j)=k by omega] at this
 have yR:∀i j,i<j->j<l0.length->S i∈out.drop (out.length-j):=by
  intro i j DD hj;have hi:i<out.reverse.length:=by simp;omega
  have e:out.drop (out.length-j)=(out.reverse.take j).reverse:=by
   rw[List.take_reverse];simp
  rw[e,List.mem_reverse,List.mem_take_iff_getElem];refine ⟨i,by simp;omega,?_⟩
  simp only[S,Lk,dW hi,yj]
 have axe:∀i j,i<j->j<l0.length->i∈rC ops ops.size j\/(jQ (S j).m i=false/\QF (S i).rc (S j).rc/\∀p r,ops[i]? =some p->ops[j]? =some r->E6 ops.toList p r=true):=by
  intro i j DD hj;have ci:=hS i (by omega)
  have cj:=hS j hj;by_cases ha:i∈rC ops ops.size j
  ·exact .inl ha
  ·have hb:jQ (S j).m i=false:=by
    cases hb:jQ (S j).m i with
    |false=>rfl
    |true=>exact absurd (HU _ _ _ (by omega) i (cj.rC i hb)) ha
   refine .inr ⟨hb,?_,λp r hp hr=> ?_⟩
   ·rcases cj.ind (S i) (yR i j DD hj) with h|h
    ·rw[ci.rci,hb] at h;simp at h
    ·exact h
   ·rcases I7 ops.toList 0 0 [] hs (by simp) (by simp) (λp hp=>by simp at hp) j (pU _) (by omega) i DD p r hp hr with h|h
    ·exact absurd (HU _ _ _ (by omega) i h) ha
    ·exact h
 have aus:∀j,l0.length<=j->S j=default:=by
  intro j hj;show out.reverse.getD j default=default;rw[Lk,ym (by simp;omega)]
  rfl
 have mY:∀(g':Gh) x,(x<base\/oA<=x)->(∀y,g'.Z y≠g.Z y->∃k,k<l0.length/\(S k).newp y)->g'.Z x=g.Z x:=by
  intro g' x hx hy;by_cases he:g'.Z x=g.Z x
  ·exact he
  ·exfalso;let ⟨i,hi,hn⟩:=hy x he;have ci:=hS i hi;have hbi:=ci.base;have hm0:=P0 0 i (by omega) (by omega)
   have hm1:=P0 (i+1) l0.length (by omega) (cF _)
   have hm2:=ci.Uz;rw[n0] at hm0;rw[n1] at hm1;cases yf:(S i).rc.call with
   |false=>let ⟨_,_,_,_,_,e1⟩:=ci.Io yf;have:=e1 x hn;omega
   |true=>let ⟨_,_,_,_,e1⟩:=ci.cal yf;have:=e1 x hn;omega
 have hmm:=P0 0 l0.length (by omega) (cF _)
 rw[n0,n1] at hmm;refine amh (S:=λi=>l0.length<=i) (s0:=⟨T,F⟩) (U:=λx=>(S x).u) (need:=λi=>(S i).need) (frp:=λi=>(S i).frp) (newp:=λi=>(S i).newp) Hr (λi hi hns=>⟨(hS i (by omega)).dst,(hS i (by omega)).step ro⟩) (λj hj=> ?_) ?_ hE dQ hr ?_ ?_ ?_
 ·by_cases hjn:l0.length<=j
  ·rcases Es with he|⟨he,h1,h2,_⟩
   ·omega
   ·have e:j=l0.length:=by omega
    subst e;exact ⟨h1,λi DD=>.inl (h2 i DD)⟩
  have hj0:=hj;have hj:j<l0.length:=by omega
  refine ⟨λi hi=> ?_,λi DD=> ?_⟩
  ·rw[Wj (pW hj0)] at hi;exact (hS j hj).lt i hi
  rcases axe i j DD hj with h|⟨hb,hI,Ix⟩
  ·exact .inl h
  ·have mw:i<l0.length:=by omega
   have hi0:i<ops.size:=by omega
   have ci:=hS i mw;have cj:=hS j hj;have hbi:=ci.base;have hbj:=cj.base;let ⟨t1,t2,t3⟩:=afR (Ix ops[i] ops[j] (pW hi0) (pW hj0));refine .inr ⟨λt ht o ho=> ?_,λt ht o ho=> ?_,λt ht=> ?_,λx hx=> ?_,λx hx=> ?_,λx hx=> ?_⟩
   ·rw[pW hj0] at ho;cases ho;exact t1 t (by rw[<-ci.dst];exact ht)
   ·rw[pW hi0] at ho;cases ho;exact t2 t (by rw[<-cj.dst];exact ht)
   ·rw[cj.dst];exact t3 t (by rw[<-ci.dst];exact ht)
   ·cases hd:(S j).u.D x with
    |false=>rfl
    |true=>
     exfalso;rcases (ci.D x).1 hx with h1|h1<;>rcases (cj.D x).1 hd with h2|h2
     ·exact hI.b3 x h1 h2
     ·rcases hI.a4 x h1 with h|h<;>omega
     ·rcases hI.a2 x h2 with h|h<;>omega
     ·cases yf:(S i).rc.call with
      |false=>
       let ⟨e1,e2,_⟩:=ci.Io yf;cases hcj:(S j).rc.call with
       |false=>let ⟨e3,e4,_⟩:=cj.Io hcj;omega
       |true=>let ⟨e3,e4,_⟩:=cj.cal hcj;omega
      |true=>
       let ⟨e1,e2,_⟩:=ci.cal yf;let ⟨e3,_⟩:=hI.c1 yf;let ⟨e4,e5,_⟩:=cj.Io e3;omega
   ·cases hd:(S i).u.D x with
    |false=>rfl
    |true=>
     exfalso;cases hcj:(S j).rc.call with
     |false=>
      let ⟨_,_,_,e,_⟩:=cj.Io hcj;rcases (ci.D x).1 hd with h1|h1
      ·exact hI.b2 x (e x hx) h1
      ·rcases hI.a1 x (e x hx) with h|h<;>omega
     |true=>
      let ⟨_,_,e,_⟩:=cj.cal hcj;let ⟨k1,k2⟩:=hI.c2 hcj;let ⟨e1,e2,_⟩:=ci.Io k1;rcases (ci.D x).1 hd with h1|h1
      ·rw[k2] at h1;simp at h1
      ·exact (e x hx).2 (S i) (yR i j DD hj) (by rw[ci.rci];exact hb) (by omega)
   ·cases hd:(S j).u.D x with
    |false=>rfl
    |true=>
     exfalso;cases yf:(S i).rc.call with
     |false=>
      let ⟨_,_,_,e,_⟩:=ci.Io yf;rcases (cj.D x).1 hd with h1|h1
      ·exact hI.b1 x (e x hx) h1
      ·rcases hI.a3 x (e x hx) with h|h<;>omega
     |true=>
      let ⟨_,_,e,_⟩:=ci.cal yf;let ⟨k1,k2⟩:=hI.c1 yf;let ⟨e1,e2,_⟩:=cj.Io k1;rcases (cj.D x).1 hd with h1|h1
      ·rw[k2] at h1;simp at h1
      ·exact ci.bd x (e x hx).1 ⟨by omega,by omega⟩
 ·intro i k hi hk bY x hx hn;by_cases z6:l0.length<=i
  ·have hx:(S i).frp x:=hx;rw[aus i z6] at hx;exact hx.elim
  by_cases hkl:l0.length<=k
  ·have hn:(S k).newp x:=hn;rw[aus k hkl] at hn;exact hn.elim
  have hi:i<l0.length:=by omega
  have hk:k<l0.length:=by omega
  have ci:=hS i hi;have ck:=hS k hk;have hbi:=ci.base;have hbk:=ck.base;cases yf:(S i).rc.call with
  |false=>
   let ⟨_,_,_,_,e1,_⟩:=ci.Io yf;have:=e1 x hx;cases FD:(S k).rc.call with
   |false=>let ⟨_,_,_,_,_,e2⟩:=ck.Io FD;have:=e2 x hn;omega
   |true=>let ⟨_,_,_,_,e2⟩:=ck.cal FD;have:=e2 x hn;omega
  |true=>
   let ⟨_,_,_,e1,_⟩:=ci.cal yf;have h1:=e1 x hx;cases FD:(S k).rc.call with
   |false=>let ⟨_,_,_,_,_,e2⟩:=ck.Io FD;have:=e2 x hn;omega
   |true=>
    let ⟨_,_,_,_,e2⟩:=ck.cal FD;have h2:=e2 x hn;rcases Nat.lt_or_gt_of_ne bY with bD|hgt
    ·rcases axe i k bD hk with h|⟨_,hI,_⟩
     ·exact h
     ·have:=(hI.c1 yf).1;rw[FD] at this;simp at this
    ·have:=P0 (k+1) i (by omega) (by omega)
     omega
 ·intro i hi x hx;by_cases z6:l0.length<=i
  ·have hx:(S i).frp x:=hx;rw[aus i z6] at hx;exact hx.elim
  have hi:i<l0.length:=by omega
  have ci:=hS i hi;have hbi:=ci.base;cases yf:(S i).rc.call with
  |false=>let ⟨_,_,_,_,e1,_⟩:=ci.Io yf;exact jP x (by have:=e1 x hx;omega)
  |true=>let ⟨_,_,_,e1,_⟩:=ci.cal yf;exact jP x (by have:=e1 x hx;omega)
 ·intro i hi hSi;rcases Es with he|⟨he,_,h2,h3⟩
  ·have hSi:l0.length<=i:=hSi;omega
  ·have hSi:l0.length<=i:=hSi;have e:i=l0.length:=by omega
   subst e;refine ⟨he,h2,λg1 a1 w1 K q1 q2 q3 q4 q5 q6=> ?_⟩
   have auq:(⟨T',F'⟩:DS)=jn (λx=>(S x).u) (List.range' 0 l0.length) (λ_=>true) ⟨T,F⟩:=fin
   rw[<-auq] at q2 q3 q4;exact h3 g1 a1 w1 K q1 q2 q3 q4 q5 (λx hx=>mY g1 x (.inl hx) q6) (λx hx=>by rw[mY g1 x (.inr hx) q6];exact jP x (by omega))
 ·intro hns g' a' w' h1 h2 h3 h4 h5;have he:l0.length=ops.size:=by
   rcases Es with he|⟨he,_⟩
   ·exact he
   ·exact absurd (cF _) (hns l0.length (by omega))
  have auq:(⟨T',F'⟩:DS)=jn (λx=>(S x).u) (List.range' 0 ops.size) (λ_=>true) ⟨T,F⟩:=by rw[<-he];exact fin
  rw[<-auq] at h1 h2 h3;have h5':∀y,g'.Z y≠g.Z y->∃k,k<l0.length/\(S k).newp y:=by
   intro y hy;apply yq;intro hc;exact hy (h5 y (λi hi hn=>hc ⟨i,by omega,hn⟩))
  exact hq he g' a' w' h1 h2 h3 h4 (λx hx=>mY g' x (.inl hx) h5') (λx hx=>by rw[mY g' x (.inr hx) h5'];exact jP x (by omega))
end
section
variable {E:Env} {g:Gh} {f:Hf} {w:World} {T:Tf}
def uk (f:Hf) (new:Nat) (us:cQ):Prop:=∀u∈us,u.1=new\/f u.1≠none
def keys_nil:uk f new []:=λu hu=>by simp at hu
def qz {o:Option SO}:uk f new [(new,o)]:=λu hu=>by simp at hu;subst hu;exact .inl rfl
def yL {id:Nat} {o:Option SO} (h:f id≠none):uk f new [(id,o)]:=λu hu=>by simp at hu;subst hu;exact .inr h
def afO {a:SV} (h:p7 E f t v a=some us):uk f new us:=by
 let ⟨q,h1,h⟩:=aj h;let ⟨i,xs,p,_,_,hp,h⟩:=qs h;let ⟨_,h⟩:=aJ h;cases h;exact yL (by rw[lh hp];simp)
def VI (h:vV E f t x k v=some us):uk f new us:=by
 let ⟨id,_,h⟩:=aj h;let ⟨i,_,h⟩:=aj h;let ⟨q,_,h⟩:=aj h;let ⟨ik,p,_,hp,h⟩:=bc h;let ⟨_,h⟩:=aJ h;let ⟨r,_,h⟩:=aj h;cases h;exact yL (by rw[zL hp];simp)
def acT (h:mC E f new t s x=some (v,us)):uk f new us:=by
 let ⟨i,_,h⟩:=aj h;let ⟨e,_,h⟩:=aj h;let ⟨ie,_,h⟩:=aj (show au (E.ty.get e) _=some (v,us) from h);let ⟨_,h⟩:=aJ h;let ⟨q,_,h⟩:=aj h;let ⟨_,h⟩:=aJ h;rw[bk] at h;split at h
 ·let ⟨_,h⟩:=aJ h;cases h;exact keys_nil
 ·cases s with
  |cR=>cases (show some (SV.sl new 0 q.1 (.u e),[(new,some (SO.cells e q.2))])=some (v,us) from h);exact qz
  |sl id off n cap=>
   let ⟨_,h⟩:=aJ (show ay (Nat.ble n 1000000) (ay (P4 n q.1 cap) (au (kM f id off (Nat.mul n ie.size)) λold=>vM new e (Nat.add n q.1) (old++q.2) []) (bE (nE (f id)) (kM f id off (Nat.mul n ie.size)) λp old=>Bi new e ie.size id off n cap q.1 q.2 p old)) none=some (v,us) from h)
   rw[bk] at h;split at h
   ·let ⟨old,_,h⟩:=aj h;cases h;exact qz
   ·let ⟨p,old,hp,_,h⟩:=bc h;have hf:f id≠none:=by rw[lh hp];simp
    cases cap with
    |k c=>
     have h:ay (Nat.ble (Nat.add n q.1) c) (ay (Nat.ble (Nat.add off (Nat.mul (Nat.add n q.1) ie.size)) p.2.length) (some (SV.sl id off (Nat.add n q.1) (.k c),[(id,some (SO.cells p.1 (dU p.2 (Nat.add off (Nat.mul n ie.size)) q.2)))])) none)
      (vM new e (Nat.add n q.1) (old++q.2) [])=some (v,us):=h
     rw[bk] at h;split at h
     ·let ⟨_,h⟩:=aJ h;cases h;exact yL hf
     ·cases h;exact qz
    |u e0=>
     let ⟨_,h⟩:=aJ (show ay (Nat.ble (Nat.add off (Nat.mul n ie.size)) p.2.length&&Nat.beq e p.1) (vM new e (Nat.add n q.1) (old++q.2) [(id,none)]) none=some (v,us) from h);cases h;intro u hu;simp at hu;rcases hu with rfl|rfl
     ·exact .inr hf
     ·exact .inl rfl
  |_=>cases h
def jY {r:dJ} (h:same r=some (v,us)):uk f new us:=by
 let ⟨z,_,h⟩:=aj h;cases h;exact keys_nil
def aaM {op:Op} (ho:oO E op T f new=some (v,us)):uk f new us:=by
 cases op with
 |move x=>
  let ⟨y,hy,ho⟩:=aj (show au (bU T x) (λv=>some (v,([]:cQ)))=some (v,us) from ho)
  cases ho;exact keys_nil
 |assign x=>
  let ⟨y,hy,ho⟩:=aj (show au (bU T x) (λv=>some (v,([]:cQ)))=some (v,us) from ho)
  cases ho;exact keys_nil
 |pick c x y=>
  let ⟨cv,hc,ho⟩:=aj (show au (bU T c) (λv=>au (pa v) λb=>one T (ay b x y) λv=>some (v,([]:cQ)))=some (v,us) from ho)
  let ⟨b,hb,ho⟩:=aj ho;let ⟨z,hz,ho⟩:=aj ho;cases ho;exact keys_nil
 |alloc e=>
  let ⟨i,hi,ho⟩:=aj (show au (E.ty.get e) (λi=>some (SV.ptr new 0,[(new,some (SO.cells e i.zero))]))=some (v,us) from ho)
  cases ho;exact qz
 |box e x=>
  let ⟨y,hy,ho⟩:=aj (show au (bU T x) (Ma new e)=some (v,us) from ho);let ⟨cs,hc,ho⟩:=aj ho;cases ho;exact qz
 |build t parts=>
  let ⟨gI,hpc,ho⟩:=aj (show au (jZ T parts.toList) (λgI=>same (Ae E t gI))=some (v,us) from ho)
  exact jY ho
 |buildSlice t len parts=>
  let ⟨gI,hpc,ho⟩:=aj (show au (jZ T parts.toList) (λgI=>kT E new t len gI)=some (v,us) from ho)
  let ⟨i,hi,ho⟩:=aj ho;let ⟨e,he,ho⟩:=aj ho;let ⟨ie,hie,ho⟩:=aj ho;let ⟨hc,ho⟩:=aJ ho;let ⟨cs,hf,ho⟩:=aj ho;cases ho;exact qz
 |insert t m k x=>
  let ⟨y1,y2,h1,h2,ho⟩:=bc (show bE (bU T m) (bU T k) (λa b=>one T x λc=>unit (vV E f t a b c))=some (v,us) from ho)
  let ⟨y3,h3,ho⟩:=aj ho;let ⟨us',hu,ho⟩:=aj ho;cases ho;exact VI hu
 |mapUpdate t m k x=>
  let ⟨y1,y2,h1,h2,ho⟩:=bc (show bE (bU T m) (bU T k) (λa b=>one T x λc=>unit (vV E f t a b c))=some (v,us) from ho)
  let ⟨y3,h3,ho⟩:=aj ho;let ⟨us',hu,ho⟩:=aj ho;cases ho;exact VI hu
 |load t x=>
  let ⟨y,hy,ho⟩:=aj (show au (bU T x) (λv=>same (nM E f t v))=some (v,us) from ho)
  exact jY ho
 |store t x y=>
  let ⟨y1,y2,h1,h2,ho⟩:=bc (show bE (bU T x) (bU T y) (λa v=>unit (p7 E f t v a))=some (v,us) from ho)
  let ⟨us',hu,ho⟩:=aj ho;cases ho;exact afO hu
 |nilCheck x=>
  let ⟨y,hy,ho⟩:=aj (show au (bU T x) (λv=>same (Pq v))=some (v,us) from ho)
  exact jY ho
 |binOp op t x y yt=>
  let ⟨y1,y2,h1,h2,ho⟩:=bc (show bE (bU T x) (bU T y) (λv u=>same (Ey E op t x y v u))=some (v,us) from ho)
  exact jY ho
 |unOp op t x=>
  let ⟨y,hy,ho⟩:=aj (show au (bU T x) (λv=>same (unA op v))=some (v,us) from ho)
  exact jY ho
 |convert s d x=>
  let ⟨y,hy,ho⟩:=aj (show au (bU T x) (λv=>same (Qi E s d v))=some (v,us) from ho)
  exact jY ho
 |makeFunc fn first jk=>
  let ⟨gN,ho⟩:=aJ (show ay (Uu fn) (bE (eI T first.toList) (eI T jk.toList) λl m=>some (SV.fn fn l m,([]:cQ))) none=some (v,us) from ho)
  let ⟨l,m,h1,h2,ho⟩:=bc ho;cases ho;exact keys_nil
 |makeMap t r=>
  cases r with
  |none=>cases (show some (SV.mp new,[(new,some (SO.map [] 0))])=some (v,us) from ho);exact qz
  |some x=>
   let ⟨i,y,hi,hy,ho⟩:=bc (show bE (E.ty.get t) (bU T x) (λi v=>bE (Ce i.desc) (lq v) λ_ _=>Pr new)=some (v,us) from ho)
   let ⟨q,n,hq,JS,ho⟩:=bc ho;cases ho;exact qz
 |makeSlice t l c=>
  let ⟨y1,y2,h1,h2,ho⟩:=bc (show bE (bU T l) (bU T c) (λu v=>bE (lq u) (lq v) (B9 E new t))=some (v,us) from ho)
  let ⟨n1,n2,k1,k2,ho⟩:=bc ho;let ⟨i,hi,ho⟩:=aj ho;let ⟨e,he,ho⟩:=aj ho;let ⟨ie,hie,ho⟩:=aj ho;let ⟨hc,ho⟩:=aJ ho;cases ho;exact qz
 |slice t x lo hi mx=>
  let ⟨y,hy,ho⟩:=aj (show au (bU T x) (λv=>uI (js T lo) (js T hi) (js T mx) λl u m=>same (BX E t v l u m))=some (v,us) from ho)
  let ⟨l,u,m,h1,h2,h3,ho⟩:=qs ho;exact jY ho
 |fieldAddr s x k=>
  let ⟨y,hy,ho⟩:=aj (show au (bU T x) (qw E s k)=some (v,us) from ho);let ⟨i,p,hi,hp,ho⟩:=bc ho;let ⟨fs,FC,ho⟩:=aj ho;let ⟨fl,z8,ho⟩:=aj ho;let ⟨fi,hfi,ho⟩:=aj ho;let ⟨hc,ho⟩:=aJ ho;cases ho;exact keys_nil
 |field t x k=>
  let ⟨y,hy,ho⟩:=aj (show au (bU T x) (yG E t k)=some (v,us) from ho);let ⟨i,cs,hi,hp,ho⟩:=bc ho;let ⟨fs,FC,ho⟩:=aj ho;let ⟨fl,z8,ho⟩:=aj ho;let ⟨fi,hfi,ho⟩:=aj ho;exact jY ho
 |indexAddr t x ix=>
  let ⟨y1,y2,h1,h2,ho⟩:=bc (show bE (bU T x) (bU T ix) (λv u=>au (lq u) λk=>same (lu E t v k))=some (v,us) from ho)
  let ⟨n,JS,ho⟩:=aj ho;exact jY ho
 |index t x ix=>
  let ⟨y1,y2,h1,h2,ho⟩:=bc (show bE (bU T x) (bU T ix) (λv u=>au (lq u) λk=>sN E t k v)=some (v,us) from ho)
  let ⟨n,JS,ho⟩:=aj ho;let ⟨i,hi,ho⟩:=aj ho;generalize i.desc=D at ho;cases D with
  |string=>
   let ⟨s,hs,ho⟩:=aj (show au (strOf y1) (λs=>au (s.data.toList[n]?) λb=>some (SV.int .u8 (.lit (.ofNat b.toNat)),([]:cQ)))=some (v,us) from ho)
   let ⟨b,hb,ho⟩:=aj ho;cases ho;exact keys_nil
  |array m e=>
   let ⟨cs,ie,JY,hie,ho⟩:=bc (show bE (HW y1) (E.ty.get e) (λcs ie=>ay (Nat.ble (Nat.succ n) m) (same (ia ie cs (Nat.mul n ie.size))) none)=some (v,us) from ho)
   let ⟨hc,ho⟩:=aJ ho;exact jY ho
  |_=>cases ho
 |lookup t x k ok=>
  let ⟨y1,y2,h1,h2,ho⟩:=bc (show bE (bU T x) (bU T k) (λa b=>same (sO E f t a b ok))=some (v,us) from ho)
  exact jY ho
 |range t x=>
  let ⟨y,hy,ho⟩:=aj (show au (bU T x) (wM E f new t)=some (v,us) from ho);let ⟨i,hi,ho⟩:=aj ho;let ⟨q,hq,ho⟩:=aj ho;cases ho;exact qz
 |next it tV=>
  let ⟨y,hy,ho⟩:=aj (show au (bU T it) (xk f tV)=some (v,us) from ho);let ⟨hs,ho⟩:=aJ ho;let ⟨id,cK,ho⟩:=aj ho;let ⟨p,hp,ho⟩:=aj ho;have ho:some (pQ id p)=some (v,us):=ho;unfold pQ at ho;rw[bk] at ho;split at ho
  ·cases ho;exact yL (by rw[PH hp];simp)
  ·cases ho;exact keys_nil
 |extract x i=>
  let ⟨y,hy,ho⟩:=aj (show au (bU T x) (λv=>au (OJ v) λvs=>same (vs[i]?))=some (v,us) from ho)
  let ⟨vs,rp,ho⟩:=aj ho;exact jY ho
 |call c=>
  have ho:nW E T f new c=some (v,us):=ho;unfold nW at ho;split at ho
  ·rename_i b hb;let ⟨aa,has,ho⟩:=aj ho;cases b with
   |len=>
    let ⟨x,t,h1,h2,ho⟩:=bc (show bE aa.head? c.argTypes.toList.head? (λx t=>ay (Nat.beq aa.length 1) (au (E.ty.get t) λi=>same (yK i.desc x f)) none)=some (v,us) from ho)
    let ⟨hl,ho⟩:=aJ ho;let ⟨i,hi,ho⟩:=aj ho;exact jY ho
   |append=>
    let ⟨p,q,h1,h2,ho⟩:=bc (show bE (uY aa) (uY c.argTypes.toList) (λp q=>au (E.ty.get q.2) λi=>ay (vY i.desc) (mC E f new q.1 p.1 p.2) none)=some (v,us) from ho)
    let ⟨i,hi,ho⟩:=aj ho;let ⟨hr,ho⟩:=aJ ho;exact acT ho
   |min=>
    let ⟨p,h1,ho⟩:=aj (show au (uY aa) (λp=>same (NU E false p.1 p.2))=some (v,us) from ho)
    exact jY ho
   |max=>
    let ⟨p,h1,ho⟩:=aj (show au (uY aa) (λp=>same (NU E true p.1 p.2))=some (v,us) from ho)
    exact jY ho
   |_=>cases ho
  ·cases ho
 |_=>cases ho
end
section
variable {E:Env} {g:Gh} {f:Hf} {w:World}
def Pz (F:Fence) (n:Nat) (P:Program) (c:Code) (Q:Exit->Act->World->Prop) (a:Act) (w:World):Prop:=
 ∀(b:Frame) (k:List Item) (cs:List Frame),b.roundOf=F.round->F.fn b.fn->F.room (cs.length+1+n)->
  ∃e a' w',Q e a' w'/\ArrivesIn (Machine.fenced P F) P (lone (b.atR a (.code c:: .inLoop c::k)) cs w) b k cs e a' w'
def wpX (F:Fence) (n:Nat) (P:Program) (c:Code) (Q:Exit->Act->World->Prop) (a:Act) (w:World):Prop:=
 match c with
 | .loop b=>Pz F n P b Q a w
 |c=>c.wpIn F n P Q a w
inductive ExR (g:Gh):Ex->Exit->Prop
 |normal:ExR g .normal .normal
 |exit (id:_):ExR g (.exit id) (.exit id)
 |ret:ExR g .ret .ret
 |fQ {v u:_} (h:VR g u v):ExR g (.fQ v) (.panic [{v:=u,recovered:=false}])
inductive Marks (g:Gh):List Dm->List Deferred->Prop
 |nil:Marks g [] []
 |mark {d mk r o ds:_} (h:g.Z d=some (r,o)) (ht:Marks g mk ds):Marks g (.mark d::mk) ({target:=.collected r,args:= #[]}::ds)
 |fn {k aa ca mk ds:_} {us cs:hY} (h1:kH g us.toList aa) (h2:kH g cs.toList ca) (ht:Marks g mk ds):Marks g (.fn k aa ca::mk) ({target:=.fn (.func k) cs,args:=us}::ds)
def Marks.mono {g:Gh} (hle:g.le g'):∀{mk:List Dm} {ds:List Deferred},Marks g mk ds->Marks g' mk ds
 |_,_,.nil=>.nil
 |_,_,.mark h ht=>.mark (hle.Z _ _ h) (ht.mono hle)
 |_,_,.fn h1 h2 ht=>.fn (h1.mono hle) (h2.mono hle) (ht.mono hle)
def Bd (h:Hs):Prop:=∀x,h.nx<=x->h.hp.get x=none
structure qv (h h':Hs):Prop where
 nx:h.nx<=h'.nx
 bd:Bd h'
 lg:∀x,x<h.nx->x∉h'.lg->h'.hp.get x=h.hp.get x
 sub:∀x∈h.lg,x∈h'.lg
 dead:∀x,x<h.nx->h.hp.get x=none->h'.hp.get x=none
def qv.refl (hb:Bd h):qv h h:=⟨cF _,hb,λ_ _ _=>rfl,λ_ h=>h,λ_ _ h=>h⟩
def qv.trans {a b c:Hs} (h:qv a b) (k:qv b c):qv a c:=
 ⟨iL h.nx k.nx,k.bd,λx hx hn=>(k.lg x (mA hx h.nx) hn).trans (h.lg x hx (λhc=>hn (k.sub x hc))),λx hx=>k.sub x (h.sub x hx),λx hx hn=>k.dead x (mA hx h.nx) (h.dead x hx hn)⟩
def pc (h:Hs) (mk mk':List Dm):Prop:=mk.length<=mk'.length/\∀x,Dm.mark x∈mk'->Dm.mark x∈mk\/h.nx<=x
def pc.refl (h:Hs) (mk:List Dm):pc h mk mk:=⟨cF _,λ_ hx=>.inl hx⟩
def pc.trans {h1:Hs} {mk Jz mk2:List Dm} (f1:h.nx<=h1.nx) (l1:pc h mk Jz) (l2:pc h1 Jz mk2):pc h mk mk2:=
 ⟨iL l1.1 l2.1,λx hx=>(l2.2 x hx).elim (l1.2 x) λhx=>.inr (iL f1 hx)⟩
def amO (nt:Nat) (g:Gh) (h:Hs) (w:World) (Q:Exit->Act->World->Prop) (o:Oc):Prop:=
 ∀g' a' w' x,ExR g' o.e x->FR g' nt o.tm.get a'.tmps->HR g' o.h.hp.get w'->Fr g h.hp.get w g' o.h.hp.get w'->Marks g' o.dm a'.defers->(∀x,o.h.nx<=x->g'.Z x=none)->(∀x,x<h.nx->g'.Z x=g.Z x)->Q x a' w'
def kj (E:Env) (nt:Nat) (c:Code) (tm:cq) (mk:List Dm) (h:Hs) (l:List Oc):Prop:=
 l≠ []/\(∀o∈l,qv h o.h/\pc h mk o.dm)/\
 ∀(ro:da) (m:Nat) (g:Gh) (a:Act) (w:World) (Q:Exit->Act->World->Prop),codeOk c=true->(ro=none\/∀o∈l,o.dm.length=mk.length)->dP E g->FR g nt tm.get a.tmps->HR g h.hp.get w->Marks g mk a.defers->(∀x,h.nx<=x->g.Z x=none)->
  (∀o∈l,amO nt g h w Q o)->wpX (sw ro) m E.P c Q a w
def OpsS (E:Env) (nt:Nat) (ops:fk) (l:bS) (tm:cq) (mk:List Dm) (h:Hs) (r:List Oc):Prop:=
 r≠ []/\(∀o∈r,qv h o.h/\pc h mk o.dm)/\
 ∀(ro:da) (m:Nat) (g:Gh) (a:Act) (w:World) (Q:Exit->Act->World->Prop),(ro=none\/∀o∈r,o.dm.length=mk.length)->dP E g->FR g nt tm.get a.tmps->HR g h.hp.get w->Marks g mk a.defers->(∀x,h.nx<=x->g.Z x=none)->
  (∀o∈r,amO nt g h w Q o)->wpOpsIn (sw ro) m E.P ops Q (List.range' (ops.size-l.length) l.length) a w
structure FacD (base i W:Nat) (h h':Hs):Prop where
 nx:h.nx<=h'.nx
 bd:Bd h'
 lg:∀x,x<h.nx->¬(base+i<=x/\x<base+W)->x∉h'.lg->h'.hp.get x=h.hp.get x
 sub:∀x∈h.lg,x∈h'.lg
 dead:∀x,x<h.nx->¬(base+i<=x/\x<base+W)->h.hp.get x=none->h'.hp.get x=none
def Sound (E:Env):j7->Out->Prop
 | .code nt c tm mk h,.cU l=>Bd h->kj E nt c tm mk h l
 | .ops nt all l tm mk h,.cU r=>∀ops:fk,ops.toList=all->ops.toList.drop (ops.size-l.length)=l->Bd h->OpsS E nt ops l tm mk h r
 | .draw nt W all base i M prev l tm h,.st tm' h'=>∀ops:fk,ops.toList=all->W=ops.size->ops.toList.drop i=l->base+W<=h.nx->Bd h->(∀x,h.hp.get x≠none->¬(base+i<=x/\x<base+W))->KJ ops W M i->(∀p∈prev,p.call=false->p.hi=p.lo+1/\p.lo<base+W)->
   ∀ps:List St,ps.map (·.rc)=prev->FacD base i W h h'/\∃out,DT E nt W ops base i ps l tm.get h.hp.get h.nx tm'.get h'.hp.get h'.nx out
 | .call fv aa h,.gg l=>Bd h->l≠ []/\(∀r∈l,qv h r.h)/\yY E fv aa h.hp.get h.nx l
 |_,_=>True
structure CL (w w':World):Prop where
 os:w'.os=w.os
 tape:w'.tape=w.tape
 output:w'.output=w.output
 size:w.heap.size<=w'.heap.size
 heap:∀b,b<w.heap.size->w'.heap[b]? =w.heap[b]?
def On (P:Program) (k:FuncId):Prop:=∃fn,P.funcs[k]? =some fn/\fn.body.isSome=true/\fn.name≠ "runtime.NumGoroutine"
def QG (P:Program) (k:FuncId) (v:SV):Prop:=
 On P k/\∀m w,CallsIn Fence.wide m P k #[] w λe w'=>∃r,e= .returned r/\(∀g,VR g r v)/\CL w w'
structure Wr (w w':World) (b:Nat) (e:TypeId) (iZ:hY):Prop where
 heap:w'.heap[b]? =some (.cells iZ e (0,0))
 size:w'.heap.size=w.heap.size
 Iq:∀k,k≠b->w'.heap[k]? =w.heap[k]?
 os:w'.os=w.os
 tape:w'.tape=w.tape
 output:w'.output=w.output
structure Nw (w w':World) (e:TypeId) (iZ:hY):Prop where
 heap:w'.heap=w.heap.push (.cells iZ e (0,0))
 os:w'.os=w.os
 tape:w'.tape=w.tape
 output:w'.output=w.output
def ano (P:Program) (k:FuncId) (sz:Nat):Prop:=
 On P k/\∀(m:Nat) (w:World) (b off n c i j:Nat) (cur:hY) (e:TypeId),w.heap[b]? =some (.cells cur e (0,0))->off+n*sz<=cur.size->(∀t,t<n*sz->∀v,cur[off+t]? =some v->v.oneCell'=true)->i<j->j<=n->n<=c->
  CallsIn Fence.wide m P k #[.slice (some ⟨b,off,none⟩) n c,.int .i64 i,.int .i64 j] w λr w'=>r= .returned (.slice (some ⟨b,off,none⟩) (n-(j-i)) c)/\∃iZ,Wr w w' b e iZ/\iZ.size=cur.size/\
   (∀t,(t<off+i*sz\/off+n*sz<=t)->iZ[t]? =cur[t]?)/\(∀t,t<n*sz-j*sz->iZ[off+i*sz+t]? =cur[off+j*sz+t]?)/\∀t,t<j*sz-i*sz->∃v,iZ[off+i*sz+(n*sz-j*sz)+t]? =some v/\v.oneCell'=true
def ayk (P:Program) (k:FuncId) (e:TypeId) (sz:Nat):Prop:=
 On P k/\∀(m:Nat) (w:World) (b off n c i vb jq q vc:Nat) (cur HK:hY) (ev:TypeId),w.heap[b]? =some (.cells cur e (0,0))->w.heap[vb]? =some (.cells HK ev (0,0))->vb≠b->off+c*sz<=cur.size->jq+q*sz<=HK.size->
  (∀t,t<n*sz->∀v,cur[off+t]? =some v->v.oneCell'=true)->(∀t,t<q*sz->∀v,HK[jq+t]? =some v->v.oneCell'=true)->n<=c->n<=1000000->0<q->q<=1000000->i<=n->
  CallsIn Fence.wide m P k #[.slice (some ⟨b,off,none⟩) n c,.int .i64 i,.slice (some ⟨vb,jq,none⟩) q vc] w λr w'=>∃(b' o' c':Nat) (iZ:hY),r= .returned (.slice (some ⟨b',o',none⟩) (n+q) c')/\n+q<=c'/\o'+c'*sz<=iZ.size/\
   (∀t,t<(n+q)*sz->iZ[o'+t]? =(uV ((cur.toList.drop off).take (n*sz)) (i*sz) ((HK.toList.drop jq).take (q*sz)))[t]?)/\((b'=b/\o'=off/\Wr w w' b e iZ)\/(b'=w.heap.size/\o'=0/\Nw w w' e iZ))
def QE (P:Program) (k:FuncId) (z:Bool):Prop:=
 On P k/\(∀(m:Nat) (w:World) (p:Option Addr) (c:Nat),CallsIn Fence.wide m P k #[.slice p 0 c] w λr w'=>r= .returned (ay z (.tuple #[]) (.slice p 0 c))/\w'.heap=w.heap/\w'.os=w.os/\w'.tape=w.tape/\w'.output=w.output)/\
  ∀(m:Nat) (w:World) (b off c:Nat) (xs:List Int) (cur:hY) (e:TypeId),w.heap[b]? =some (.cells cur e (0,0))->0<xs.length->xs.length<=4294967295->xs.length<=c->(∀t x,xs[t]? =some x->cur[off+t]? =some (.int .i64 x))->
   CallsIn Fence.wide m P k #[.slice (some ⟨b,off,none⟩) xs.length c] w λr w'=>r= .returned (ay z (.tuple #[]) (.slice (some ⟨b,off,none⟩) (ld xs).length c))/\∃w1 iZ,Wr w w1 b e iZ/\CL w1 w'/\iZ.size=cur.size/\
    (∀t,(t<off\/off+xs.length<=t)->iZ[t]? =cur[t]?)/\∀t x,(zc z xs)[t]? =some x->iZ[off+t]? =some (.int .i64 x)
def XT (E:Env) (k c:Nat):Prop:=(1048576<=c->QE E.P k (Nat.beq c 1048576))/\(c<1048576->∀ie,E.ty.get (c / 2)=some ie->(c % 2=0->ano E.P k ie.size)/\(c % 2≠0->ayk E.P k (c / 2) ie.size))
structure wy (E:Env):Prop where
 fn:∀k fn,E.fn.get k=some fn->E.P.funcs[k]? =some fn/\alR fn=true
 ext:∀k fn,E.fn.get k=some fn->fn.body=none->(fn.name== "internal/bytealg.abigen_runtime_cmpstring")=true->Extern.findNext fn=none/\Extern.find fn=some Extern.BytealgCompare.compare
 mix:E.P.follows .mixedOrders=true
 done:∀k v,oX E k []=some v->QG E.P k v
 NO:∀k c,rM k E.rK=some c->XT E k c
def amF {a b:Out} (h:acU a b= .cU r):∃x y,a= .cU x/\b= .cU y/\r=x++y:=by
 cases a<;>cases b<;>first|(cases h;done)|(cases h;exact ⟨_,_,rfl,rfl,rfl⟩)
def arF {a b:Out} {r:List Rs} (h:acU a b= .gg r):∃x y,a= .gg x/\b= .gg y/\r=x++y:=by
 cases a<;>cases b<;>first|(cases h;done)|(cases h;exact ⟨_,_,rfl,rfl,rfl⟩)
def uG {Y:Type} {k:Y->Out}:∀{l:List Y} {r:List Oc},lj k l= .cU r->l≠ []/\(∀o∈l,∃r',k o= .cU r'/\∀x∈r',x∈r)/\∀x∈r,∃o∈l,∃r',k o= .cU r'/\x∈r'
 | [],r,h=>by cases h
 | [o],r,h=>by
  have h:k o= .cU r:=h;refine ⟨by simp,λo' ho=> ?_,λx hx=>⟨o,by simp,r,h,hx⟩⟩
  obtain rfl:=cB.1 ho;exact ⟨r,h,λ_ hx=>hx⟩
 |o::o'::l,r,h=>by
  obtain ⟨x,y,h1,h2,rfl⟩:=amF (show acU (k o) (lj k (o'::l))= .cU r from h);let ⟨_,q1,q2⟩:=uG h2;refine ⟨by simp,λz hz=> ?_,λz hz=> ?_⟩
  ·rcases bB.1 hz with rfl|hz
   ·exact ⟨x,h1,λa ha=>by simp[ha]⟩
   ·let ⟨r',e1,e2⟩:=q1 z hz;exact ⟨r',e1,λa ha=>by simp[e2 a ha]⟩
  ·rcases ee.1 hz with hz|hz
   ·exact ⟨o,by simp,x,h1,hz⟩
   ·let ⟨a,ha,r',e1,e2⟩:=q2 z hz;exact ⟨a,dR _ ha,r',e1,e2⟩
def Ks {Y:Type} {k:Y->Out}:∀{l:List Y} {r:List Rs},lj k l= .gg r->l≠ []/\(∀o∈l,∃r',k o= .gg r'/\∀x∈r',x∈r)/\∀x∈r,∃o∈l,∃r',k o= .gg r'/\x∈r'
 | [],r,h=>by cases h
 | [o],r,h=>by
  have h:k o= .gg r:=h;refine ⟨by simp,λo' ho=> ?_,λx hx=>⟨o,by simp,r,h,hx⟩⟩
  obtain rfl:=cB.1 ho;exact ⟨r,h,λ_ hx=>hx⟩
 |o::o'::l,r,h=>by
  obtain ⟨x,y,h1,h2,rfl⟩:=arF (show acU (k o) (lj k (o'::l))= .gg r from h);let ⟨_,q1,q2⟩:=Ks h2;refine ⟨by simp,λz hz=> ?_,λz hz=> ?_⟩
  ·rcases bB.1 hz with rfl|hz
   ·exact ⟨x,h1,λa ha=>by simp[ha]⟩
   ·let ⟨r',e1,e2⟩:=q1 z hz;exact ⟨r',e1,λa ha=>by simp[e2 a ha]⟩
  ·rcases ee.1 hz with hz|hz
   ·exact ⟨o,by simp,x,h1,hz⟩
   ·let ⟨a,ha,r',e1,e2⟩:=q2 z hz;exact ⟨a,dR _ ha,r',e1,e2⟩
def Ca {r:Out} {k:Ex->cq->List Dm->Hs->Out} {x:List Oc} (h:Jo r k= .cU x):∃l,r= .cU l/\lj (λo:Oc=>k o.e o.tm o.dm o.h) l= .cU x:=by
 cases r<;>first|(cases h;done)|exact ⟨_,rfl,h⟩
def agd {r:Out} {k:Ex->cq->List Dm->Hs->Out} {x:List Rs} (h:Jo r k= .gg x):∃l,r= .cU l/\lj (λo:Oc=>k o.e o.tm o.dm o.h) l= .gg x:=by
 cases r<;>first|(cases h;done)|exact ⟨_,rfl,h⟩
def akg {r:Out} {k:SV->Hs->Out} {x:List Oc} (h:TZ r k kp= .cU x):∃l,r= .gg l/\lj (λr:Rs=>ay r.fQ (kp r.v r.h) (k r.v r.h)) l= .cU x:=by
 cases r<;>first|(cases h;done)|exact ⟨_,rfl,h⟩
def aoE {r:Out} {k:SV->Hs->Out} {x:List Rs} (h:TZ r k kp= .gg x):∃l,r= .gg l/\lj (λr:Rs=>ay r.fQ (kp r.v r.h) (k r.v r.h)) l= .gg x:=by
 cases r<;>first|(cases h;done)|exact ⟨_,rfl,h⟩
def YJ:∀(us:cQ) (h:Hs),(∀x∈h.lg,x∈(h.gY us).lg)/\∀u∈us,u.1∈(h.gY us).lg
 | [],h=>⟨λ_ hx=>hx,λu hu=>by simp at hu⟩
 |u::us,h=>by
  let ⟨h1,h2⟩:=YJ us (h.up u);refine ⟨λx hx=>h1 x (dR _ hx),λv hv=> ?_⟩
  rcases bB.1 hv with rfl|hv
  ·exact h1 v.1 (by simp[Hs.up])
  ·exact h2 v hv
def Mo (h:Hs) (us:cQ):(h.fin us).hp.get=nQ h.hp.get us:=by
 cases us with
 |nil=>rfl
 |cons u us=>exact LF (u::us) h
def pZ {x:Nat} (h:x∉us.map (·.1)) (F:Hf):nQ F us x=F x:=by rw[BN us F F x,aA h]
def ait (hb:Bd h) (hk:uk h.hp.get h.nx us):qv h (h.fin us):=by
 cases us with
 |nil=>exact qv.refl hb
 |cons u us=>
  have e:h.fin (u::us)=(h.gY (u::us)).bump:=rfl;have hn:(h.gY (u::us)).nx=h.nx:=zq _ _;have hg:(h.gY (u::us)).hp.get=nQ h.hp.get (u::us):=LF _ _;have bD:∀v∈u::us,v.1<=h.nx:=λv hv=>by
   rcases hk v hv with h1|h1
   ·omega
   ·by_cases hl:h.nx<=v.1
    ·exact absurd (hb _ hl) h1
    ·omega
  let ⟨l1,l2⟩:=YJ (u::us) h;refine ⟨?_,λx hx=> ?_,λx hx hl=> ?_,λx hx=>l1 x hx,λx hx hl=> ?_⟩
  ·rw[e];show h.nx<=(h.gY (u::us)).nx+1;omega
  ·rw[e] at hx ⊢;have hx:(h.gY (u::us)).nx+1<=x:=hx;show (h.gY (u::us)).hp.get x=none;rw[hg,pZ (λhc=>by obtain ⟨v,hv,rfl⟩:=dS.1 hc;have:=bD v hv;omega)]
   exact hb x (by omega)
  ·rw[e] at hl ⊢;show (h.gY (u::us)).hp.get x=_;rw[hg,pZ (λhc=>by obtain ⟨v,hv,rfl⟩:=dS.1 hc;exact hl (l2 v hv))]
  ·rw[e];show (h.gY (u::us)).hp.get x=_;rw[hg,pZ (λhc=>by
    obtain ⟨v,hv,rfl⟩:=dS.1 hc;rcases hk v hv with h1|h1
    ·omega
    ·exact h1 hl)]
   exact hl
def aaG {ops:fk} (h:ops.toList.drop (ops.size-(o::l).length)=o::l):ops[ops.size-(o::l).length]? =some o/\ops.toList.drop (ops.size-l.length)=l/\ops.size-l.length=ops.size-(o::l).length+1:=by
 have hi:ops.size-(o::l).length<ops.toList.length:=by
  by_cases hl:ops.size-(o::l).length<ops.toList.length
  ·exact hl
  ·rw[qY (by omega)] at h;simp at h
 have hlen:(o::l).length<=ops.size:=by
  have:=bA List.length h;simp at this ⊢;omega
 rw[se hi] at h;let ⟨h1,h2⟩:=OE h;have e:ops.size-l.length=ops.size-(o::l).length+1:=by simp at hlen ⊢;omega
 refine ⟨?_,by rw[e];exact h2,e⟩
 have:ops.toList[ops.size-(o::l).length]? =some o:=by rw[dW hi,h1]
 simpa using this
def G2 {nt:Nat} {mk:List Dm} (W:List (cq×List Dm×Hs)) (P:List Oc) (Dz:∀(ops:fk) (i:Nat),ops.toList=all->ops[i]? =some o->Bd h->∀(ro:da) (m:Nat) (g:Gh) (a:Act) (w:World) (K:Act->World->Prop) (Q:Exit->Act->World->Prop),(ro=none\/∀y∈W,y.2.1.length=mk.length)->dP E g->FR g nt tm.get a.tmps->HR g h.hp.get w->Marks g mk a.defers->(∀x,h.nx<=x->g.Z x=none)->
   (∀y∈W,∀g' a' w',FR g' nt y.1.get a'.tmps->HR g' y.2.2.hp.get w'->Fr g h.hp.get w g' y.2.2.hp.get w'->Marks g' y.2.1 a'.defers->(∀x,y.2.2.nx<=x->g'.Z x=none)->(∀x,x<h.nx->g'.Z x=g.Z x)->K a' w')->(∀o∈P,amO nt g h w Q o)->wpOpIn (sw ro) m E.P ops Q i K a w) (abR:Bd h->(∀y∈W,qv h y.2.2/\pc h mk y.2.1)/\∀o∈P,qv h o.h/\pc h mk o.dm) (hP:∀o∈P,o∈r) (bY:∀ops:fk,ops.toList=all->ops.toList.drop (ops.size-l.length)=l->Bd h->r≠ []) (ju:∀o∈r,o∈P\/∃y∈W,∃r',Sound E (.ops nt all l y.1 y.2.1 y.2.2) (.cU r')/\o∈r') (ih:∀y∈W,∃r',Sound E (.ops nt all l y.1 y.2.1 y.2.2) (.cU r')/\∀o∈r',o∈r):Sound E (.ops nt all (o::l) tm mk h) (.cU r):=by
 intro ops he hd hO;let ⟨hi,hd',hidx⟩:=aaG hd;let ⟨fW,fP⟩:=abR hO;refine ⟨bY ops he hd' hO,λo ho=> ?_,λro m g a w Q iH hE dQ hr wU iq hk=> ?_⟩
 ·rcases ju o ho with hp|⟨y,hy,r',hs,vt⟩
  ·exact fP o hp
  ·let ⟨_,f1,_⟩:=hs ops he hd' (fW y hy).1.bd;exact ⟨(fW y hy).1.trans (f1 o vt).1,pc.trans (fW y hy).1.nx (fW y hy).2 (f1 o vt).2⟩
 ·rw[mM,yo,wpOpsIn_cons];refine Dz ops _ he hi hO ro m g a w _ Q (iH.imp_right λiH y hy=> ?_) hE dQ hr wU iq (λy hy g' a' w' q1 q2 q3 q4 q5 q6=> ?_) (λo ho=>hk o (hP o ho))
  ·let ⟨r',hs,vt⟩:=ih y hy;let ⟨xy,f1,_⟩:=hs ops he hd' (fW y hy).1.bd;let ⟨o',ho'⟩:=mQ _ xy;have h1:=(fW y hy).2.1;have h2:=(f1 o' ho').2.1;have h3:=iH o' (vt o' ho');omega
  ·let ⟨r',hs,vt⟩:=ih y hy;let ⟨xy,f1,k1⟩:=hs ops he hd' (fW y hy).1.bd;have:=k1 ro m g' a' w' Q (iH.imp_right λiH o' ho'=>by
    let ⟨o2,ho2⟩:=mQ _ xy;have h1:=(fW y hy).2.1;have h2:=(f1 o' ho').2.1;have h3:=iH o' (vt o' ho');omega) (hE.mono q3.le) q1 q2 q4 q5 (λo' ho' g2 a2 w2 x s0 s1 s2 s3 s4 s5 s6=>hk o' (vt o' ho') g2 a2 w2 x s0 s1 s2 (q3.trans s3) s4 s5 (λx hx=>by
     rw[s6 x (mA hx (fW y hy).1.nx),q6 x hx]))
   rw[hidx] at this;exact this
def aaF {nt:Nat} {kR:cq} {mk:List Dm} {h1:Hs} {need frp newp:Nat->Prop} (ig:∀(ops:fk) (i:Nat),ops.toList=all->ops[i]? =some o->Bd h->∀ro,zh E ro nt ops i o tm.get need h.hp.get frp newp v D H') (htm:kR.get=yF tm.get o.dst v) (hh:Bd h->h1.hp.get=oQ D H' h.hp.get) (hfrp:∀x,frp x->h.nx<=x) (jP:∀x,newp x->h.nx<=x/\x<h1.nx) (abR:Bd h->qv h h1) (ih:Sound E (.ops nt all l kR mk h1) out):Sound E (.ops nt all (o::l) tm mk h) out:=by
 cases out with
 |cU r=>
  by_cases bY:r= []
  ·intro ops he hd hO;let ⟨_,hd',_⟩:=aaG hd;exact absurd bY (ih ops he hd' (abR hO).bd).1
  refine G2 [(kR,mk,h1)] [] (λops i he hi hO ro m g a w K Q iH hE dQ hr wU iq hk _=> ?_) (λhO=>⟨λy hy=> ?_,λo ho=>by simp at ho⟩) (λo ho=>by simp at ho) (λ_ _ _ _=>bY) (λo ho=>.inr ⟨(kR,mk,h1),by simp,r,ih,ho⟩) (λy hy=> ?_)
  ·refine ig ops i he hi hO ro m g h.hp.get tm.get a w K Q hE dQ hr (λ_ _=>rfl) (λ_ _=>rfl) (λx hx=>iq x (hfrp x hx)) (λr w' g' q1 q2 q3 q4=> ?_)
   rw[<-htm] at q1;rw[<-hh hO] at q2 q3;have hf1:=(abR hO).nx;exact hk (kR,mk,h1) (by simp) g' (a.put o.dst r) w' q1 q2 q3 (by rw[put_defers];exact wU.mono q3.le) (λx hx=>by
    have hx:h1.nx<=x:=hx;rw[q4 x (λhn=>by have:=jP x hn;omega)]
    exact iq x (by omega)) (λx hx=>q4 x (λhn=>by have:=jP x hn;omega))
  ·obtain rfl:=cB.1 hy;exact ⟨abR hO,pc.refl _ _⟩
  ·obtain rfl:=cB.1 hy;exact ⟨r,ih,λ_ h=>h⟩
 |_=>trivial
def A9 (us:cQ) (new:Nat):Nat->Bool:=λx=>decide (x∈us.map (·.1)\/x=new)
def aAK {nt:Nat} {mk:List Dm} (hw:eD all o tm.get=some true) (hd:fS nt o.dst=true) (ho:oO E o.op tm.get h.hp.get h.nx=some (v,us)) (yc:∀c,o.op≠ .defer c) (ih:Sound E (.ops nt all l (cM tm o.dst v) mk (h.fin us)) out):Sound E (.ops nt all (o::l) tm mk h) out:=by
 refine aaF (need:=λx=>x∈kL o.op tm.get) (frp:=λx=>x=h.nx) (newp:=λx=>x=h.nx/\us≠ []) (v:=v) (D:=A9 us h.nx) (H':=nQ h.hp.get us) (λops i he hi hO ro=> ?_) (tP _ _ _) (λhO=> ?_) (λx hx=>by omega) (λx hx=> ?_) (λhO=>ait hO (aaM ho)) ih
 ·subst he;exact Na hi hw hd ho (hO _ (cF _)) (λx=>by simp[A9]) yc
 ·rw[Mo];funext x;unfold oQ A9;by_cases h1:x∈us.map (·.1)
  ·rw[ax (by simp only[lI];exact .inl h1)]
  ·rw[pZ h1];split<;>rfl
 ·obtain ⟨rfl,bY⟩:=hx;refine ⟨cF _,?_⟩;cases us with
  |nil=>exact absurd rfl bY
  |cons u us=>
   show h.nx<(h.gY (u::us)).nx+1;rw[zq];omega
def asW {nt:Nat} {mk:List Dm} (hw:eD all o tm.get=some false) (hd:fS nt o.dst=true) (ih:Sound E (.ops nt all l (cM tm o.dst (.cm [])) mk h) out):Sound E (.ops nt all (o::l) tm mk h) out:=by
 refine aaF (need:=λ_=>False) (frp:=λx=>x=h.nx) (newp:=λ_=>False) (v:=.cm []) (D:=λx=>decide (x=h.nx)) (H':=h.hp.get) (λops i he hi hO ro=> ?_) (tP _ _ _) (λhO=> ?_) (λx hx=>by omega) (λx hx=>hx.elim) (λhO=>qv.refl hO) ih
 ·subst he;exact step_skip hi hw hd (hO _ (cF _)) (λx=>by simp)
 ·funext x;unfold oQ;split<;>rfl
def Ny {op:Op} (h:ir op=some c):op= .call c/\isValue c.callee=true:=by
 cases op<;>first|(cases h;done)|skip
 rename_i c';have h:ay (isValue c'.callee) (some c') none=some c:=h;let ⟨h1,h2⟩:=aJ h;cases h2;exact ⟨rfl,h1⟩
def Qf {op:Op} {T:Tf} {r:SV×cQ} (h:oO E op T f new=some r):∀c,op≠ .defer c:=by
 intro c e;subst e;cases h
end
section
variable {E:Env} {g:Gh} {f:Hf} {w:World}
def aav {l:Nat} {o o':SO} (hb:Bd h) (hl:h.hp.get l=some o):qv h (h.put l o'):=by
 have bD:l<h.nx:=by
  by_cases hc:h.nx<=l
  ·rw[hb l hc] at hl;simp at hl
  ·omega
 have hg:∀x,(h.put l o').hp.get x=if x=l then some o' else h.hp.get x:=λx=>Tr.iU _ _ _ _
 refine ⟨cF _,λx hx=> ?_,λx hx hn=> ?_,λx hx=>dR _ hx,λx hx hn=> ?_⟩
 ·have hx:h.nx<=x:=hx;rw[hg,aA (by omega)];exact hb x hx
 ·have hn:x∉l::h.lg:=hn;rw[hg,aA (λe=>hn (by simp[e]))]
 ·rw[hg,aA (λe=>by subst e;rw[hl] at hn;simp at hn)];exact hn
def asR (h:Hs) (l:Nat) (o:SO):(h.put l o).hp.get=lJ h.hp.get (l,some o):=funext λx=>Tr.iU _ _ _ _
def aaE {nt:Nat} {mk Jz:List Dm} (hd:fS nt o.dst=true) (wU:pc h mk Jz) (Dz:∀(ops:fk) (i:Nat),ops.toList=all->ops[i]? =some o->∀(ro:da) (m:Nat) (g:Gh) (a:Act) (w:World) (K:Act->World->Prop) (Q:Exit->Act->World->Prop),(ro=none\/Jz.length=mk.length)->dP E g->FR g nt tm.get a.tmps->HR g h.hp.get w->Marks g mk a.defers->
   (∀a' u,VR g u v->a'.tmps=(a.put o.dst u).tmps->Marks g Jz a'.defers->K a' w)->wpOpIn (sw ro) m E.P ops Q i K a w) (ih:Sound E (.ops nt all l (cM tm o.dst v) Jz h) (.cU r)):Sound E (.ops nt all (o::l) tm mk h) (.cU r):=by
 by_cases bY:r= []
 ·intro ops he hd hO;let ⟨_,hd',_⟩:=aaG hd;exact absurd bY (ih ops he hd' hO).1
 refine G2 [(cM tm o.dst v,Jz,h)] [] (λops i he hi hO ro m g a w K Q iH hE dQ hr hmk' iq hk _=> ?_) (λhO=>⟨λy hy=> ?_,λo ho=>by simp at ho⟩) (λo ho=>by simp at ho) (λ_ _ _ _=>bY) (λo' ho=>.inr ⟨(cM tm o.dst v,Jz,h),by simp,r,ih,ho⟩) (λy hy=> ?_)
 ·refine Dz ops i he hi ro m g a w K Q (iH.imp_right λhh=>hh (cM tm o.dst v,Jz,h) (by simp)) hE dQ hr hmk' (λa' u hu ha hm=> ?_)
  refine hk (cM tm o.dst v,Jz,h) (by simp) g a' w ?_ hr (Fr.refl _ _ _) hm iq (λ_ _=>rfl)
  rw[tP,ha];exact dQ.put hd hu
 ·obtain rfl:=cB.1 hy;exact ⟨qv.refl hO,wU⟩
 ·obtain rfl:=cB.1 hy;exact ⟨r,ih,λ_ h=>h⟩
def agq {op:Op} {x:Operand×Bool} (h:zK op=some x):(op= .next x.1 false/\x.2=false)\/(op= .entry x.1/\x.2=true):=by
 cases op<;>first|(cases h;done)|skip
 ·rename_i it tV;have h:ay tV none (some (it,false))=some x:=h;cases tV with
  |true=>cases h
  |false=>cases h;exact .inl ⟨rfl,rfl⟩
 ·cases h;exact .inr ⟨rfl,rfl⟩
def Ed {nt:Nat} {tm:Tf} {ops:fk} (dQ:FR g nt tm a.tmps) (hw:eD ops.toList o tm=some true):Region.wanted o (yielded ops a.tmps)=true:=y4 dQ hw
def akD {ops:fk} (hi:ops[i]? =some o) (hw:Region.wanted o (yielded ops a.tmps)=true) (h:o.uponIn (sw ro) m E.P a K Q ((o.semAt (sw ro).round a.eval).run E.P w)):wpOpIn (sw ro) m E.P ops Q i K a w:=by
 unfold wpOpIn;rw[hi];simp only;rw[ax hw];exact ⟨Bl E.P w,h⟩
def VX (x:Nat):∀(l:aI),G5 x l=true↔x∈l
 | []=>by simp[G5]
 |y::l=>by
  unfold G5;rw[bk,beq_eq];by_cases h:x=y
  ·simp[h]
  ·simp only[h,bg,aK,aG,bB,false_or];exact VX x l
def PC {seen:aI} {sa:Array Nat} (hs:sa.toList=seen):∀{ms:List MapEntry} {es:jh},iC g ms es->iC g (ms.filter λe=> !sa.contains e.born) (G7 seen es)
 |_,_,.nil=>.nil
 |_,_,.cons (m:=m) (x:=x) (ms:=ms) (xs:=xs) hd ht=>by
  have ih:=PC hs ht;have hc:sa.contains m.born=G5 x.2.2 seen:=by
   rw[lG,VX,Array.contains_iff_mem,<-Array.mem_toList_iff,hs,hd.2.2]
  unfold G7 at ih ⊢;rw[tH,tH,hc];cases G5 x.2.2 seen with
  |true=>exact ih
  |false=>exact .cons hd ih
def iC.aAT (h:iC g ms es):ms= []↔es= []:=by cases h<;>simp
def iC.mem (h:iC g ms es):∀m∈ms,∃x∈es,ann g m x:=by
 intro m hm;induction h with
 |nil=>simp at hm
 |cons hd ht ih=>
  rcases bB.1 hm with rfl|hm
  ·exact ⟨_,by simp,hd⟩
  ·let ⟨x,hx,h⟩:=ih hm;exact ⟨x,dR _ hx,h⟩
def Nj (hs:sa.toList=seen) {ms:Array MapEntry} (h:iC g ms.toList es):iC g (leftOf ms sa).toList (G7 seen es):=by
 have:=PC hs h;unfold leftOf;rw[Array.toList_filter];exact this
def IH {id:Nat} (h:wz y=some id):y= .ptr id 0:=by
 let ⟨q,h1,h2⟩:=aj h;let ⟨h3,h4⟩:=aJ h2;cases h4;have:=(beq_iff _ _).1 h3;obtain rfl:=om h1;rw[this]
def ala {since last c:Nat} (h:iterM since seen last c es=true):(∀e∈es,e.2.2<since)/\since<=last:=by
 unfold iterM at h;rw[aY] at h;refine ⟨λe he=> ?_,(cN _ _).1 h.2⟩
 exact (cN _ _).1 (dV.1 h.1 e he)
def asX (jF:∀j,Sound E j (rec j)) {nt:Nat} {mk:List Dm} {x:Operand} {id:Nat} (hw:eD all o tm.get=some true) (hd:fS nt o.dst=true) (dN:o.op= .next x false) (hx:bU tm.get x=some y) (hy:wz y=some id) (fh:yv rec nt all l tm mk h o.dst id= .cU r):Sound E (.ops nt all (o::l) tm mk h) (.cU r):=by
 obtain rfl:=IH hy;have over:(∀(g:Gh) (w:World),HR g h.hp.get w->∀b c,g.Z id=some (b,c)->c=0/\(Instr.next (.pointer (some ⟨b,0,none⟩)) false o.type).run E.P w= .ok (.tuple #[.bool false]) w)->
   Sound E (.ops nt all l (cM tm o.dst (.cm [.bool false])) mk h) (.cU r)->Sound E (.ops nt all (o::l) tm mk h) (.cU r):=by
  intro ky ih;refine aaE hd (pc.refl _ _) (λops i he hi ro m g a w K Q iH hE dQ hr wU hk=> ?_) ih
  subst he;have hu:=pY dQ hx;generalize hue:a.eval x=u at hu;cases hu with
  | @ptr _ _ b c hρ=>
  obtain ⟨rfl,hn⟩:=ky g w hr b c hρ;refine akD hi (Ed dQ hw) ?_;rw[Oper.semAt_eq _ _ _ (λc' h=>by rw[dN] at h;cases h)]
  have hex:(execOp a.eval o).run E.P w= .ok (.value (.tuple #[.bool false])) w:=by
   simp only[execOp,dN,hue,nu,Sem.run_bind,hn,Result.andThen_ok,Sem.run_pure]
  rw[hex];exact hk _ _ (.cm (.cons (.bool false) .nil)) rfl (by rw[put_defers];exact wU)
 unfold yv at fh;split at fh
 ·rename_i s q t cK;have ih:=jF (.ops nt all l (cM tm o.dst (.cm [.bool false])) mk h);rw[show rec (.ops nt all l (cM tm o.dst (.cm [.bool false])) mk h)= .cU r from fh] at ih;refine over (λg w hr b c hρ=> ?_) ih
  obtain ⟨_,rfl,bm,sa,h1,h2,h3⟩:=hr.at cK hρ;have h3:bm=none:=h3;subst h3;refine ⟨rfl,?_⟩;simp[Instr.next,getObj,Sem.run,h1]
 ·rename_i m0 since seen last cK;split at fh;rotate_left
  ·cases fh
  rename_i es c0 auo;rw[bk] at fh;split at fh;rotate_left
  ·cases fh
  rename_i hit;let ⟨hold,Ix⟩:=ala hit;unfold agQ at fh;have model:∀(g:Gh) (w:World),HR g h.hp.get w->∀b c,g.Z id=some (b,c)->c=0/\∃(bm y:Nat) (sa:Array Nat) (ms:Array MapEntry),g.Z m0=some (bm,y)/\sa.toList=seen/\w.heap[b]? =some (.mapIter (some bm) since sa last)/\w.heap[bm]? =some (.map ms c0)/\iC g ms.toList es/\∀z∈ms.toList,z.born<since:=by
   intro g w hr b c hρ;obtain ⟨_,rfl,bm,sa,h1,h2,h3⟩:=hr.at cK hρ;obtain ⟨bm',y,rfl,h4⟩:=h3;let ⟨_,ms,m1,m2⟩:=hr.at auo h4;refine ⟨rfl,bm',y,sa,ms,h4,h2,h1,m1,m2,λz hz=> ?_⟩
   let ⟨e,he,h5⟩:=m2.mem z hz;rw[h5.2.2];exact hold e he
  cases hle:G7 seen es with
  |nil=>
   rw[hle] at fh;have ih:=jF (.ops nt all l (cM tm o.dst (.cm [.bool false])) mk h);rw[show rec (.ops nt all l (cM tm o.dst (.cm [.bool false])) mk h)= .cU r from fh] at ih;refine over (λg w hr b c hρ=> ?_) ih
   obtain ⟨rfl,bm,y,sa,ms,q1,q2,q3,q4,q5,q6⟩:=model g w hr b c hρ;refine ⟨rfl,?_⟩;have uL:=Nj q2 q5;rw[hle] at uL;rcases run_next_at (P:=E.P) w o.type b bm since last sa ms c0 q3 q4 q6 Ix with ⟨_,hn⟩|⟨e,he,_⟩
   ·exact hn
   ·have:(leftOf ms sa).toList= []:=uL.aAT.2 rfl;rw[this] at he;simp at he
  |cons e0 l0=>
   rw[hle] at fh;have fh:lj (λe=>tf rec nt all l tm mk o.dst (.cm [.bool true,e.1,e.2.1]) (h.put id (.mapIter (some m0) since (seen++ [e.2.2]) c0))) (e0::l0)= .cU r:=fh
   rw[<-hle] at fh;let ⟨bY,q1,q2⟩:=uG fh;have hrne:∀ops:fk,ops.toList=all->ops.toList.drop (ops.size-l.length)=l->Bd h->r≠ []:=by
    intro ops aug alK hO JR;subst JR;let ⟨r',h1,h2⟩:=q1 e0 (by rw[hle];simp)
    have hs:=jF (.ops nt all l (cM tm o.dst (.cm [.bool true,e0.1,e0.2.1])) mk (h.put id (.mapIter (some m0) since (seen++ [e0.2.2]) c0)));rw[show rec (.ops nt all l (cM tm o.dst (.cm [.bool true,e0.1,e0.2.1])) mk (h.put id (.mapIter (some m0) since (seen++ [e0.2.2]) c0)))= .cU r' from h1] at hs;let ⟨xy,_⟩:=hs ops aug alK (aav hO cK).bd;let ⟨z,hz⟩:=mQ _ xy;have:=h2 z hz;simp at this
   refine G2 ((G7 seen es).map λe=>(cM tm o.dst (.cm [.bool true,e.1,e.2.1]),mk,h.put id (.mapIter (some m0) since (seen++ [e.2.2]) c0))) [] (λops i he hi hO ro m g a w K Q iH hE dQ hr wU iq hk _=> ?_) (λhO=>⟨λy hy=> ?_,λo ho=>by simp at ho⟩) (λo ho=>by simp at ho) hrne (λoc ho=> ?_) (λy hy=> ?_)
   ·subst he;have hu:=pY dQ hx;generalize hue:a.eval x=u at hu;cases hu with
    | @ptr _ _ b c hρ=>
    obtain ⟨rfl,bm,y,sa,ms,p1,p2,p3,p4,p5,p6⟩:=model g w hr b c hρ;have uL:=Nj p2 p5;rcases run_next_at (P:=E.P) w o.type b bm since last sa ms c0 p3 p4 p6 Ix with ⟨h0,_⟩|⟨e,he,w1,hw1,hn⟩
    ·have:(leftOf ms sa).toList= []:=ur (by simpa using h0)
     rw[this,hle] at uL;cases uL
    let ⟨x0,Fv,aur⟩:=uL.mem e he;refine akD hi (Ed dQ hw) ?_;rw[Oper.semAt_eq _ _ _ (λc' h=>by rw[dN] at h;cases h)]
    have hex:(execOp a.eval o).run E.P w= .ok (.value (.tuple #[.bool true,e.key,e.val])) (ChangeMaps.setBlock w1 b (.mapIter (some bm) since (sa.push e.born) c0)):=by
     simp only[execOp,dN,hue,nu,Sem.run_bind,hn,Result.andThen_ok,Sem.run_pure]
    rw[hex];have Mm:w1.heap=w.heap/\w1.os=w.os/\w1.tape=w.tape/\w1.output=w.output:=by
     rcases hw1 with rfl|rfl
     ·exact ⟨rfl,rfl,rfl,rfl⟩
     ·exact ⟨rfl,rfl,rfl,rfl⟩
    have hb:b<w.heap.size:=(hr.at cK hρ).1;let ⟨t1,t2⟩:=HR.write hr (o':=.mapIter (some m0) since (seen++ [x0.2.2]) c0) (w':=ChangeMaps.setBlock w1 b (.mapIter (some bm) since (sa.push e.born) c0)) cK hρ (by simp[ChangeMaps.setBlock,Mm.1]) (λk hk=>by simp[ChangeMaps.setBlock,Mm.1,Array.getElem?_setIfInBounds_ne (zl hk)])
     ⟨rfl,some bm,sa.push e.born,by simp[ChangeMaps.setBlock,Mm.1,hb],by rw[Array.toList_push,p2,aur.2.2],bm,y,rfl,p1⟩ Mm.2.1 Mm.2.2.1 Mm.2.2.2
    rw[<-asR] at t1 t2;refine hk (cM tm o.dst (.cm [.bool true,x0.1,x0.2.1]),mk,h.put id (.mapIter (some m0) since (seen++ [x0.2.2]) c0)) (dS.2 ⟨x0,Fv,rfl⟩) g (a.put o.dst (.tuple #[.bool true,e.key,e.val])) _ ?_ t1 t2 (by rw[put_defers];exact wU) iq (λ_ _=>rfl)
    rw[tP];exact dQ.put hd (.cm (.cons (.bool true) (.cons aur.1 (.cons aur.2.1 .nil))))
   ·obtain ⟨e,he,rfl⟩:=dS.1 hy;exact ⟨aav hO cK,pc.refl _ _⟩
   ·let ⟨e,he,r',h1,h2⟩:=q2 oc ho;refine .inr ⟨(cM tm o.dst (.cm [.bool true,e.1,e.2.1]),mk,h.put id (.mapIter (some m0) since (seen++ [e.2.2]) c0)),dS.2 ⟨e,he,rfl⟩,r',?_,h2⟩;have ih:=jF (.ops nt all l (cM tm o.dst (.cm [.bool true,e.1,e.2.1])) mk (h.put id (.mapIter (some m0) since (seen++ [e.2.2]) c0)));rw[show rec (.ops nt all l (cM tm o.dst (.cm [.bool true,e.1,e.2.1])) mk (h.put id (.mapIter (some m0) since (seen++ [e.2.2]) c0)))= .cU r' from h1] at ih;exact ih
   ·obtain ⟨e,he,rfl⟩:=dS.1 hy;let ⟨r',h1,h2⟩:=q1 e he;refine ⟨r',?_,h2⟩;have ih:=jF (.ops nt all l (cM tm o.dst (.cm [.bool true,e.1,e.2.1])) mk (h.put id (.mapIter (some m0) since (seen++ [e.2.2]) c0)));rw[show rec (.ops nt all l (cM tm o.dst (.cm [.bool true,e.1,e.2.1])) mk (h.put id (.mapIter (some m0) since (seen++ [e.2.2]) c0)))= .cU r' from h1] at ih;exact ih
 ·cases fh
def P6 {b:Nat}:∀{ms:List MapEntry} {es:jh},iC g ms es->∀{v:SV},XG b es=some v->∃e,ms.find? (·.born==b)=some e/\VR g (.tuple #[e.key,e.val]) v
 |_,_,.nil,v,h=>by cases h
 |_,_,.cons (m:=m) (x:=x) (ms:=ms) (xs:=es) hd ht,v,h=>by
  unfold XG at h;rw[bk] at h;split at h
  ·rename_i hb;have hb:=(beq_iff _ _).1 hb;cases h;refine ⟨m,by simp[hd.2.2,hb],.cm (.cons hd.1 (.cons hd.2.1 .nil))⟩
  ·rename_i hb;have hb:¬x.2.2=b:=λe=>hb ((beq_iff _ _).2 e)
   let ⟨e,h1,h2⟩:=P6 ht h;refine ⟨e,?_,h2⟩;rw[List.find?_cons];have:(m.born==b)=false:=by rw[hd.2.2];simpa using hb
   rw[this];exact h1
def PD:∀{l:aI} {b:Nat},akW l=some b->l.getLast? =some b
 | [],b,h=>by cases h
 | [a],b,h=>by cases h;rfl
 |a::c::l,b,h=>by
  have:=PD (l:=c::l) h;rw[List.getLast?_cons_cons];exact this
def apf {nt:Nat} {mk:List Dm} {x:Operand} {id:Nat} (hw:eD all o tm.get=some true) (hd:fS nt o.dst=true) (dN:o.op= .entry x) (hx:bU tm.get x=some y) (hy:wz y=some id) (hv:FK h.hp.get id=some v) (ih:Sound E (.ops nt all l (cM tm o.dst v) mk h) (.cU r)):Sound E (.ops nt all (o::l) tm mk h) (.cU r):=by
 obtain rfl:=IH hy;refine aaE hd (pc.refl _ _) (λops i he hi ro m g a w K Q iH hE dQ hr wU hk=> ?_) ih
 subst he;have hu:=pY dQ hx;generalize hue:a.eval x=u at hu;cases hu with
 | @ptr _ _ b c hρ=>
 unfold FK at hv;split at hv;rotate_left
 ·cases hv
 rename_i m0 since seen last cK;split at hv;rotate_left
 ·cases hv
 rename_i es c0 auo;let ⟨hc,AI⟩:=aJ hv;have hc:=(beq_iff _ _).1 hc;subst hc;let ⟨bo,h1,h2⟩:=aj AI;obtain ⟨_,rfl,bm,sa,q1,q2,q3⟩:=hr.at cK hρ;obtain ⟨bm',y',rfl,q4⟩:=q3;let ⟨_,ms,m1,m2⟩:=hr.at auo q4;let ⟨e,e1,e2⟩:=P6 m2 h2;have aS:sa.back? =some bo:=by rw[<-Array.getLast?_toList,q2];exact PD h1
 refine akD hi (Ed dQ hw) ?_;rw[Oper.semAt_eq _ _ _ (λc' h=>by rw[dN] at h;cases h)]
 have hf:ms.find? (·.born==bo)=some e:=by rw[<-Array.find?_toList];exact e1
 have hn:(Instr.entry (.pointer (some ⟨b,0,none⟩))).run E.P w= .ok (.tuple #[e.key,e.val]) w:=by
  simp only[Instr.entry,getObj,Sem.run_bind,Sem.run,q1,m1,Result.andThen,aS,sJ,aK,aG,hf];rfl
 have hex:(execOp a.eval o).run E.P w= .ok (.value (.tuple #[e.key,e.val])) w:=by
  simp only[execOp,dN,hue,nu,Sem.run_bind,hn,Result.andThen_ok,Sem.run_pure]
 rw[hex];exact hk _ _ e2 rfl (by rw[put_defers];exact wU)
def asY (jF:∀j,Sound E j (rec j)) {nt:Nat} {mk:List Dm} (hw:eD all o tm.get=some true) (hd:fS nt o.dst=true) (dN:o.op= .call c) (hc:pR tm.get c.callee=some fv) (has:eI tm.get c.args.toList=some aa) (hs:Sound E (.call fv aa h) (.gg rs)) (fh:lj (λx:Rs=>ay x.fQ (.cU [⟨.fQ x.v,tm,mk,x.h⟩]) (tf rec nt all l tm mk o.dst x.v x.h)) rs= .cU r):Sound E (.ops nt all (o::l) tm mk h) (.cU r):=by
 have hs:Bd h->rs≠ []/\(∀r∈rs,qv h r.h)/\yY E fv aa h.hp.get h.nx rs:=hs;let ⟨bY,q1,q2⟩:=uG fh;have way:∀x∈rs,(x.fQ=true/\(⟨.fQ x.v,tm,mk,x.h⟩:Oc)∈r)\/(x.fQ=false/\∃r',Sound E (.ops nt all l (cM tm o.dst x.v) mk x.h) (.cU r')/\∀z∈r',z∈r):=by
  intro x hx;let ⟨r',h1,h2⟩:=q1 x hx;cases hp:x.fQ with
  |true=>
   rw[hp] at h1;cases (show Out.cU [⟨.fQ x.v,tm,mk,x.h⟩]= .cU r' from h1);exact .inl ⟨rfl,h2 _ (by simp)⟩
  |false=>
   rw[hp] at h1;have ih:=jF (.ops nt all l (cM tm o.dst x.v) mk x.h);rw[show rec (.ops nt all l (cM tm o.dst x.v) mk x.h)= .cU r' from h1] at ih;exact .inr ⟨rfl,r',ih,h2⟩
 refine G2 ((rs.filter λx=> !x.fQ).map λx=>(cM tm o.dst x.v,mk,x.h)) ((rs.filter λx=>x.fQ).map λx=>⟨.fQ x.v,tm,mk,x.h⟩) (λops i he hi hO ro m g a w K Q iH hE dQ hr wU iq hk hP=> ?_) (λhO=>⟨λy hy=> ?_,λo ho=> ?_⟩) (λo ho=> ?_) (λops aug alK hO JR=> ?_) (λoc ho=> ?_) (λy hy=> ?_)
 ·subst he;refine aie (g:=g) (H:=h.hp.get) (nx:=h.nx) hi hw dN hc has dQ (λ_ _=>rfl) (λu us hu lQ=>(hs hO).2.2 (m-1) g w u us hE hr iq hu lQ) ?_
  rintro e w' ⟨x,hx,u,g',rfl,h1,h2,h3,h4,h5⟩;refine ⟨x.fQ,u,rfl,λhp=> ?_,λhp=> ?_⟩
  ·refine hk (cM tm o.dst x.v,mk,x.h) (dS.2 ⟨x,pH.2 ⟨hx,by simp[hp]⟩,rfl⟩) g' _ w' ?_ h2 h3 (by rw[put_defers];exact wU.mono h3.le) h5 h4
   rw[tP];exact (dQ.mono h3.le).put hd h1
  ·exact hP ⟨.fQ x.v,tm,mk,x.h⟩ (dS.2 ⟨x,pH.2 ⟨hx,hp⟩,rfl⟩) g' a w' _ (.fQ h1) (dQ.mono h3.le) h2 h3 (wU.mono h3.le) h5 h4
 ·obtain ⟨x,hx,rfl⟩:=dS.1 hy;exact ⟨(hs hO).2.1 x (pH.1 hx).1,pc.refl _ _⟩
 ·obtain ⟨x,hx,rfl⟩:=dS.1 ho;exact ⟨(hs hO).2.1 x (pH.1 hx).1,pc.refl _ _⟩
 ·obtain ⟨x,hx,rfl⟩:=dS.1 ho;let ⟨AH,cW⟩:=pH.1 hx;rcases way x AH with ⟨_,h1⟩|⟨h1,_⟩
  ·exact h1
  ·rw[h1] at cW;simp at cW
 ·subst JR;let ⟨x,hx⟩:=mQ _ bY;rcases way x hx with ⟨_,h1⟩|⟨_,r',h1,h2⟩
  ·simp at h1
  ·let ⟨xy,_⟩:=h1 ops aug alK ((hs hO).2.1 x hx).bd;let ⟨z,hz⟩:=mQ _ xy;have:=h2 z hz;simp at this
 ·let ⟨x,hx,r',h1,h2⟩:=q2 oc ho;cases hp:x.fQ with
  |true=>
   rw[hp] at h1;cases (show Out.cU [⟨.fQ x.v,tm,mk,x.h⟩]= .cU r' from h1);obtain rfl:=cB.1 h2;exact .inl (dS.2 ⟨x,pH.2 ⟨hx,hp⟩,rfl⟩)
  |false=>
   rw[hp] at h1;have ih:=jF (.ops nt all l (cM tm o.dst x.v) mk x.h);rw[show rec (.ops nt all l (cM tm o.dst x.v) mk x.h)= .cU r' from h1] at ih;exact .inr ⟨(cM tm o.dst x.v,mk,x.h),dS.2 ⟨x,pH.2 ⟨hx,by simp[hp]⟩,rfl⟩,r',ih,h2⟩
 ·obtain ⟨x,hx,rfl⟩:=dS.1 hy;let ⟨AH,cW⟩:=pH.1 hx;rcases way x AH with ⟨h1,_⟩|⟨_,h1⟩
  ·rw[h1] at cW;simp at cW
  ·exact h1
def aqR {k:SV->Hs->Out} (hg:goK rec h fo ao k kp= .cU r):∃fv aa rs,fo=some fv/\ao=some aa/\rec (.call fv aa h)= .gg rs/\lj (λx:Rs=>ay x.fQ (kp x.v x.h) (k x.v x.h)) rs= .cU r:=by
 cases fo with
 |none=>cases hg
 |some fv=>
  cases ao with
  |none=>cases hg
  |some aa=>
   let ⟨rs,h1,h2⟩:=akg (show TZ (rec (.call fv aa h)) k kp= .cU r from hg);exact ⟨fv,aa,rs,rfl,rfl,h1,h2⟩
def SH (jF:∀j,Sound E j (rec j)) (nt:Nat) (all l:bS) (tm:cq) (mk:List Dm) (h:Hs):Sound E (.ops nt all l tm mk h) (agP E rec nt all l tm mk h):=by
 cases l with
 |nil=>
  intro ops he hd hO;refine ⟨by simp,λo ho=> ?_,λro m g a w Q iH hE dQ hr wU iq hk=> ?_⟩
  ·obtain rfl:=cB.1 ho;exact ⟨qv.refl hO,pc.refl _ _⟩
  ·simp only[EM,List.range'_zero];exact hk ⟨.normal,tm,mk,h⟩ (by simp) g a w _ .normal dQ hr (Fr.refl _ _ _) wU iq (λ_ _=>rfl)
 |cons o l=>
  show Sound E _ (ay (fS nt o.dst) (LB E rec nt all l tm mk h o (eD all o tm.get)) (.fail ""));rw[bk];split;rotate_left
  ·trivial
  rename_i hd;unfold LB;cases hw:eD all o tm.get with
  |none=>trivial
  |some wb=>
   show Sound E _ (ay wb (doK E rec nt all l tm mk h o (ir o.op)) (tf rec nt all l tm mk o.dst (.cm []) h));cases wb with
   |false=>exact asW hw hd (jF _)
   |true=>
    show Sound E _ (doK E rec nt all l tm mk h o (ir o.op));unfold doK;cases hc:ir o.op with
    |some c=>
     let ⟨dN,_⟩:=Ny hc;show Sound E _ (goK rec h (pR tm.get c.callee) (eI tm.get c.args.toList) (tf rec nt all l tm mk o.dst) λv h=>.code (.fQ v) tm mk h)
     cases hg:goK rec h (pR tm.get c.callee) (eI tm.get c.args.toList) (tf rec nt all l tm mk o.dst) λv h=>.code (.fQ v) tm mk h with
     |cU r=>
      let ⟨fv,aa,rs,h1,h2,h3,h4⟩:=aqR hg;have hs:=jF (.call fv aa h);rw[h3] at hs;exact asY jF hw hd dN h1 h2 hs h4
     |_=>trivial
    |none=>
     show Sound E _ (Xl E rec nt all l tm mk h o (zK o.op));unfold Xl;cases iq:zK o.op with
     |some x=>
      show Sound E _ (alb rec nt all l tm mk h o.dst x.2 (bU tm.get x.1));unfold alb;cases hb:au (bU tm.get x.1) wz with
      |none=>trivial
      |some id=>
       let ⟨y,h1,h2⟩:=aj hb;show Sound E _ (ay x.2 (P9 rec nt all l tm mk h o.dst (FK h.hp.get id)) (yv rec nt all l tm mk h o.dst id));rcases agq iq with ⟨dN,cW⟩|⟨dN,cW⟩
       ·rw[cW];show Sound E _ (yv rec nt all l tm mk h o.dst id);cases hr:yv rec nt all l tm mk h o.dst id with
        |cU r=>exact asX jF hw hd dN h1 h2 hr
        |_=>trivial
       ·rw[cW];show Sound E _ (P9 rec nt all l tm mk h o.dst (FK h.hp.get id));unfold P9;cases hv:FK h.hp.get id with
        |none=>trivial
        |some v=>
         show Sound E _ (rec (.ops nt all l (cM tm o.dst v) mk h));have ih:=jF (.ops nt all l (cM tm o.dst v) mk h);cases hr:rec (.ops nt all l (cM tm o.dst v) mk h) with
         |cU r=>rw[hr] at ih;exact apf hw hd dN h1 h2 hv ih
         |_=>trivial
     |none=>
      show Sound E _ (ajr rec nt all l tm mk h o (oO E o.op tm.get h.hp.get h.nx));unfold ajr;cases ho:oO E o.op tm.get h.hp.get h.nx with
      |none=>trivial
      |some r=>exact aAK hw hd ho (Qf ho) (jF _)
end
end Go.bQ
end
