/- Texts that belong together. The first: Single operations: reading, writing, composite values. -/
import Derived.Test.YtmealahmjddpcaaGreatDoorP1
import Derived.Laws.MakeOwn
import Derived.MapKept
import Derived.RangeFuncCalls
set_option linter.all false
noncomputable section
namespace Go.Sim
open Go.RowKit
section
variable {E:Env} {g:Gh} {f:Hf} {w:World}
structure cx (g:Gh) (f:Hf) (w:World) (v:SV) (us:List Up) (new:Nat) (r:Value) (g':Gh) (w':World):Prop where
 val:VR g' r v
 hr:HR g' (gF f us) w'
 fr:Fr g f w g' (gF f us) w'
 ro:∀id,id≠new->g'.ρ id=g.ρ id
 nil:us= []->g'=g
theorem cx.same (h:HR g f w) {new:Nat} {r:Value} {v:SV} (hv:VR g r v):cx g f w v [] new r g w:=⟨hv,h,Fr.refl _ _ _,fun _ _=>rfl,fun _=>rfl⟩
theorem HR.at (h:HR g f w) {id b c:Nat} {o:SO} (hf:f id=some o) (hρ:g.ρ id=some (b,c)):b<w.heap.size/\OR g w id b c o:=by
 obtain ⟨b',c',q1,q2,q3⟩:=h.ob id o hf;rw[hρ] at q1;obtain ⟨rfl,rfl⟩:b=b'/\c=c':=by simpa using q1
 exact ⟨q2,q3⟩
theorem N5 {P:Program} {t:TypeId} {i:TI} (hT:qJ P t i) (ha:eG i.desc=true) {vs:List Value} (hl:vs.length=i.size) (ad:Addr) (h:∀j v,vs[j]? =some v->w.cell? (ad.add j)=some v):(loadVar t ad).run P w= .ok (.agg vs.toArray) w:=by
 have:=run_loadCells_list (P:=P) w ad vs h;rw[hl] at this;simp only[loadVar,Sem.run_bind,oJ hT,ha,Result.andThen_ok,if_true,gu hT,this,Sem.run_pure]
theorem N4 {P:Program} {t:TypeId} {i:TI} (hT:qJ P t i) (ha:eG i.desc=false) {v:Value} (ad:Addr) (h:w.cell? ad=some v):(loadVar t ad).run P w= .ok v w:=by
 simp only[loadVar,Sem.run_bind,oJ hT,ha,Result.andThen_ok,Bool.false_eq_true,if_false,run_load,h]
theorem Bq (hE:bC E g) (h:HR g f w) {t:TypeId} {x z:SV} {u:Value} (hu:VR g u x) (hl0:g8 E f t x=some z):∃r,(Instr.loadAt t u).run E.P w= .ok r w/\VR g r z:=by
 obtain ⟨q,h1,hl⟩:=af hl0;obtain ⟨i,hi,hl⟩:=af hl;obtain ⟨p,hp,hl⟩:=af hl;obtain rfl:=iB h1;have hT:=hE.ty t i hi;have hx:∃x,f q.1=some x/\cL (some x) q.2 (wide i)=some p:=by
  cases hf:f q.1 with
  |none=>rw[hf] at hp;cases hp
  |some x=>exact ⟨x,rfl,by rw[<-hf];exact hp⟩
 obtain ⟨x,hf,hx⟩:=hx;cases hu with
 | @ptr _ _ b o hρ=>
  have hc:OR g w q.1 b o x:=(h.at hf hρ).2;unfold cO at hl;rw[aC] at hl;split at hl
  ·rename_i ha;obtain ⟨hle,hl⟩:=ar hl;have hle:=(bk _ _).1 hle;cases hl;have hw:wide i=i.size:=by unfold wide;rw[ha]
   rw[hw] at hx;obtain ⟨vs,v1,v2,v3⟩:=hc.bT hx hle;refine ⟨.agg vs.toArray,?_,.agg (by simpa using v2)⟩
   simp only[Instr.loadAt,Instr.sureAddr,Sem.run_bind,Sem.run_pure,Result.andThen_ok];exact N5 hT ha v1 _ (fun j v hj=>by rw[add_lit];exact v3 j v hj)
  ·rename_i ha;have hlt:q.2<p.2.length:=(List.getElem?_eq_some_iff.1 hl).1;have hw:wide i=1:=by unfold wide;rw[show eG i.desc=false by simpa using ha]
   rw[hw] at hx;obtain ⟨vs,v1,v2,v3⟩:=hc.bT hx (by omega)
   have hz:((p.2.drop q.2).take 1)[0]? =some z:=by rw[List.getElem?_take,if_pos (by omega),List.getElem?_drop,Nat.add_zero];exact hl
   obtain ⟨v,hv,_,hd⟩:=v2.get hz;refine ⟨v,?_,hd⟩;simp only[Instr.loadAt,Instr.sureAddr,Sem.run_bind,Sem.run_pure,Result.andThen_ok];exact N4 hT (by simpa using ha) _ (by have:=v3 0 v hv;rwa[Nat.add_zero] at this)
theorem NK (hE:bC E g) (h:HR g f w) {t:TypeId} {x y:SV} {u v:Value} (hu:VR g u x) (hv:VR g v y) {us:List Up} (hl0:ir E f t y x=some us):
  ∃w',(Instr.storeAt t u v).run E.P w= .ok () w'/\HR g (gF f us) w'/\Fr g f w g (gF f us) w':=by
 obtain ⟨q,h1,hl⟩:=af hl0;obtain ⟨i,xs,p,hi,hxs,hp,hl⟩:=pa hl;obtain rfl:=iB h1;obtain ⟨hc,hl⟩:=ar hl;cases hl;rw[Bool.and_eq_true] at hc;have hlen:=(beq_iff _ _).1 hc.1;have hle:=(bk _ _).1 hc.2;have hf:=jO hp;have hT:=hE.ty t i hi;have hcr:=hv.cL hxs;cases hu with
 | @ptr _ _ b o hρ=>
  have hcc:Cells g w q.1 b o p.1 p.2:=(h.at hf hρ).2;obtain ⟨w',q1,q2,q3,q4,q5,q6,q7⟩:=hcc.store (P:=E.P) hcr hle;obtain ⟨r1,r2⟩:=h.write (o':=.cells p.1 (bF p.2 q.2 xs)) hf hρ q3 q4 q2 q5 q6 q7;refine ⟨w',?_,r1,r2⟩;have hsz:v.cells.size=i.size:=by rw[<-hlen,<-hcr.length];simp
  simp only[Instr.storeAt,Instr.sureAddr,storeVar,Sem.run_bind,Sem.run_pure,Result.andThen_ok,gu hT,hsz,ne_eq,not_true,if_false,Sem.run_ite];exact q1
theorem VCs.bF {vs us:List Value} {cs xs:List SV} {off:Nat} (h:VCs g vs cs) (k:VCs g us xs):VCs g (vs.take off++us++vs.drop (off+us.length)) (Sim.bF cs off xs):=by
 rw[vC,k.length];exact ((h.take off).append k).append (h.drop _)
theorem oY (place:Nat->Option (Nat×Nat)):∀(parts:List (Nat×Value)) (pcs:List (Nat×List SV)) (vs:Array Value) (cs rs:List SV),VCs g vs.toList cs->
  parts.length=pcs.length->(∀(j:Nat) (i:Nat) (v:Value) (i':Nat) (xs:List SV),parts[j]? =some (i,v)->pcs[j]? =some (i',xs)->i=i'/\VCs g v.cells.toList xs)->fR place cs pcs=some rs->
  ∃us,Instr.fill place vs parts=some us/\VCs g us.toList rs
 | [],[],vs,cs,rs,hc,_,_,h=>by cases h;exact ⟨vs,rfl,hc⟩
 |(i,v)::parts,(i',xs)::pcs,vs,cs,rs,hc,hl,hp,h=>by
  obtain ⟨rfl,hx⟩:=hp 0 i v i' xs rfl rfl;obtain ⟨q,hpl,h⟩:=af (show aj (place i) (fun q=>sel (Nat.beq xs.length q.2&&Nat.ble (Nat.add q.1 q.2) cs.length) (fR place (Sim.bF cs q.1 xs) pcs) none)=some rs from h)
  obtain ⟨RB,h⟩:=ar h;rw[Bool.and_eq_true] at RB;have h1:=(beq_iff _ _).1 RB.1;have h2:q.1+q.2<=cs.length:=(bk _ _).1 RB.2;obtain ⟨off,size⟩:=q;simp only at h1 h2 hpl h;have hvl:v.cells.size=size:=by rw[<-h1,<-hx.length];simp
  have hcl:vs.size=cs.length:=by rw[<-hc.length];simp
  have aiC:(v.cells.zipIdx.foldl (fun cs (c,j)=>cs.setIfInBounds (off+j) c) vs).toList=vs.toList.take off++v.cells.toList++vs.toList.drop (off+v.cells.toList.length):=by
   rw[<-Array.foldl_toList,Array.toList_zipIdx];obtain ⟨f1,f2⟩:=Great.foldl_set off v.cells.toList 0 vs;apply List.ext_getElem?;intro j;rw[oG (by simp;omega)]
   have:=f2 j;simp only[Nat.add_zero] at this;rw[Array.getElem?_toList];refine this.trans ?_;simp only[Array.length_toList,Array.getElem?_toList];by_cases hj:off<=j/\j<off+v.cells.size
   ·rw[if_pos hj,if_pos ⟨hj.1,hj.2,by omega⟩]
   ·rw[if_neg hj,if_neg (by omega)]
  have hc':=hc.bF hx (off:=off);rw[<-aiC] at hc';obtain ⟨us,hu1,hu2⟩:=oY place parts pcs _ _ rs hc' (by simpa using hl) (fun j i v i' xs ha hb=>hp (j+1) i v i' xs (by simpa using ha) (by simpa using hb)) h
  refine ⟨us,?_,hu2⟩;unfold Instr.fill;simp only[hpl];rw[if_neg (by simp[hvl];omega)]
  exact hu1
 | [],_::_,_,_,_,_,hl,_,_=>by simp at hl
 |_::_,[],_,_,_,_,hl,_,_=>by simp at hl
theorem rZ {nt:Nat} {tm:Tf} {a:Act} (h:FR g nt tm a.tmps):∀(parts:List (Nat×Operand)) (l:List (Nat×List SV)),ea tm parts=some l->
  parts.length=l.length/\∀(j:Nat) (i:Nat) (v:Value) (i':Nat) (xs:List SV),(parts.map fun (i,x)=>(i,a.eval x))[j]? =some (i,v)->l[j]? =some (i',xs)->i=i'/\VCs g v.cells.toList xs
 | [],l,hp=>by cases hp;simp
 |(i,x)::parts,l,hp=>by
  obtain ⟨v,hv,hp⟩:=af hp;obtain ⟨cs,l',hc,hl',hp⟩:=az hp;cases hp;obtain ⟨h1,h2⟩:=rZ h parts l' hl';refine ⟨by simp[h1],fun j i1 u i2 xs ha hb=> ?_⟩
  cases j with
  |zero=>
   simp at ha hb;obtain ⟨rfl,rfl⟩:=ha;obtain ⟨rfl,rfl⟩:=hb;exact ⟨rfl,(jX h hv).cL hc⟩
  |succ j=>simp at ha hb;exact h2 j i1 u i2 xs (by simpa using ha) hb
theorem PZ {P:Program} {t:TypeId} {i:TI} (h:qJ P t i):∃z,(∀w,(zeroValue t).run P w= .ok z w)/\(∀g,VCs g z.cells.toList i.zero):=by
 obtain ⟨z,h1,h2,_⟩:=zG h;exact ⟨z,h1,h2.1⟩
theorem BR {p p':Nat->Option (Nat×Nat)} (hp:∀j q,p j=some q->p' j=some q):∀(pcs:List (Nat×List SV)) (cs rs:List SV),fR p cs pcs=some rs->fR p' cs pcs=some rs
 | [],cs,rs,h=>h
 |(i,xs)::pcs,cs,rs,h=>by
  obtain ⟨q,h1,h⟩:=af (show aj (p i) (fun q=>sel (Nat.beq xs.length q.2&&Nat.ble (Nat.add q.1 q.2) cs.length) (fR p (Sim.bF cs q.1 xs) pcs) none)=some rs from h)
  obtain ⟨hc,h⟩:=ar h;show aj (p' i) (fun q=>sel (Nat.beq xs.length q.2&&Nat.ble (Nat.add q.1 q.2) cs.length) (fR p' (Sim.bF cs q.1 xs) pcs) none)=some rs
  rw[hp _ _ h1];show sel (Nat.beq xs.length q.2&&Nat.ble (Nat.add q.1 q.2) cs.length) (fR p' (Sim.bF cs q.1 xs) pcs) none=some rs;rw[hc];exact BR hp pcs _ _ h
theorem zh (P:Program):∀(l:List Field),(∀f∈l,(P.info? f.type).isSome=true)->∃places,l.mapM (fun f=>(P.info? f.type).map fun i=>(f.offset,i.size))=some places/\
  ∀(j:Nat) (f:Field) (i:TypeInfo),l[j]? =some f->P.info? f.type=some i->places[j]? =some (f.offset,i.size)
 | [],_=>⟨[],rfl,by simp⟩
 |f::l,h=>by
  obtain ⟨places,h1,h2⟩:=zh P l (fun x hx=>h x (by simp[hx]))
  obtain ⟨i,hi⟩:=Option.isSome_iff_exists.1 (h f (by simp))
  refine ⟨(f.offset,i.size)::places,by simp[List.mapM_cons,hi,h1],fun j x ix hx hix=> ?_⟩
  cases j with
  |zero=>simp at hx;subst hx;rw[hi] at hix;cases hix;rfl
  |succ j=>simp at hx;simpa using h2 j x ix hx hix
theorem FC {r:Option (List SV)} {z:SV} (h:wW r=some z):∃cs,r=some cs/\z= .agg cs:=by
 obtain ⟨cs,h1,h2⟩:=af h;cases h2;exact ⟨cs,h1,rfl⟩
theorem Oh (hE:bC E g) {t:TypeId} {parts:Array (Nat×Value)} {pcs:List (Nat×List SV)} {x:SV} (hb0:oa E t pcs=some x) (hl:parts.size=pcs.length)
  (hp:∀(j:Nat) (i:Nat) (v:Value) (i':Nat) (xs:List SV),parts.toList[j]? =some (i,v)->pcs[j]? =some (i',xs)->i=i'/\VCs g v.cells.toList xs) (w:World):
  ∃v,(Instr.build t parts).run E.P w= .ok v w/\VR g v x:=by
 obtain ⟨i,hi,hb⟩:=af hb0;have hT:=hE.ty t i hi;obtain ⟨it,zv,q1,_,_,_,q5,q6,_⟩:=hT.info;have hz:=q6.1 g;have hd:=hT.desc;generalize i.desc=D at hd hb;cases D with
 |array n e=>
  obtain ⟨ie,hie,hb⟩:=af (show aj (E.ty.get e) (fun ie=>wW (fR (jb ie.size) i.zero pcs))=some x from hb)
  obtain ⟨rs,hf,rfl⟩:=FC hb;obtain ⟨us,hu1,hu2⟩:=oY (jb ie.size) parts.toList pcs zv.cells i.zero rs hz (by simpa using hl) hp hf
  obtain ⟨fe,_,e1,e2,_⟩:=(hE.ty e ie hie).info;refine ⟨.agg us,run_build w t parts us ?_,.agg hu2⟩;unfold Program.built;simp only[q1,(show E.P.underlying t=some (.array n e) from hd),q5,e1,e2];exact hu1
 |struct fs=>
  obtain ⟨a,hu,hfs,hin⟩:=hd;obtain ⟨rs,hf,rfl⟩:=FC (show wW (fR (A7 E fs) i.zero pcs)=some x from hb);obtain ⟨places,p1,p2⟩:=zh E.P a.toList hin;have hf':=BR (p':=(places.toArray[·]?)) (fun j q hq=>by
   obtain ⟨fl,h1,h2⟩:=af hq;obtain ⟨fi,h3,h4⟩:=af h2;cases h4;rw[<-hfs,List.getElem?_map] at h1;cases hj:a.toList[j]? with
   |none=>rw[hj] at h1;simp at h1
   |some fd=>
    rw[hj] at h1;simp at h1;subst h1;obtain ⟨ff,_,e1,e2,_⟩:=(hE.ty _ fi h3).info;have:=p2 j fd ff hj e1;rw[e2] at this;simpa using this) pcs _ _ hf
  obtain ⟨us,hu1,hu2⟩:=oY (places.toArray[·]?) parts.toList pcs zv.cells i.zero rs hz (by simpa using hl) hp hf'
  refine ⟨.agg us,run_build w t parts us ?_,.agg hu2⟩;unfold Program.built;simp only[q1,hu,q5,p1];exact hu1
 |_=>cases hb
theorem EW {α:Type} [Inhabited α] (zs:List α) (s:Nat) (hs:zs.length=s):∀n,(List.range (n*s)).map (fun k=>zs.toArray[k % s]!)=(List.replicate n zs).flatten
 |0=>by simp
 |n+1=>by
  have e:(n+1)*s=s+n*s:=by rw[Nat.add_mul];omega
  rw[e,List.range_add,List.map_append,List.map_map,List.replicate_succ,List.flatten_cons,<-EW zs s hs n];congr 1
  ·apply List.ext_getElem?;intro j;rw[List.getElem?_map];by_cases hj:j<s
   ·rw[List.getElem?_range hj];simp[Nat.mod_eq_of_lt hj,hs,hj]
   ·rw[List.getElem?_eq_none (by simp;omega),List.getElem?_eq_none (by omega)];rfl
  ·refine List.map_congr_left fun k _=> ?_
   simp
theorem OI {vs:List Value} {cs:List SV} (h:VCs g vs cs):∀n,VCs g (List.replicate n vs).flatten (rep cs n)
 |0=>by simpa using .nil
 |n+1=>by rw[List.replicate_succ,List.flatten_cons];exact h.append (OI h n)
theorem qR {P:Program} {t:TypeId} {i:TI} {it:TypeInfo} {z:Value} (hT:qJ P t i) (h1:P.info? t=some it) (h2:it.zero=some z) (hok:dP i=true) (n:Nat):
  VCs g ((Array.range (n*it.size)).map (z.cells[· % z.cells.size]!)).toList (rep i.zero n)/\it.size=i.size/\1<=i.size/\it.bytes<=65536/\z.cells.size=i.size:=by
 obtain ⟨it',z',q1,q2,q3,_,q5,q6,_⟩:=hT.info;rw[h1] at q1;cases q1;rw[h2] at q5;cases q5;unfold dP at hok;rw[Bool.and_eq_true,Bool.and_eq_true] at hok;have k1:=(bk _ _).1 hok.1;have k2:=(bk _ _).1 hok.2.1;have k3:=(beq_iff _ _).1 hok.2.2;have hzl:z.cells.size=i.size:=by rw[<-k3,<-(q6.1 g).length];simp
 refine ⟨?_,q2,k2,by omega,hzl⟩
 have:=OI (q6.1 g) n;rw[<-EW z.cells.toList i.size (by simpa using hzl) n] at this
 rw[Array.toList_map,Array.toList_range,q2,hzl];simpa using this
theorem HR.row (h:HR g f w) {new:Nat} (hn:g.ρ new=none) {w0 w':World} {arr:Array Value} {e:TypeId} {vs:List Value} {cs:List SV} (hw0:w0.heap=w.heap/\w0.os=w.os/\w0.tape=w.tape/\w0.output=w.output) (hw:w'=w0.alloc (.cells arr e))
  (hc:VCs g vs cs) (hvs:∀(j:Nat) (v:Value),vs[j]? =some v->arr[j]? =some v) {v:SV} {r:Value} {l:Nat} (hl:l<=arr.size)
  (hv:VR (g.bind new (w.heap.size,0) l e) r v):cx g f w v [(new,some (.cells e cs))] new r (g.bind new (w.heap.size,0) l e) w':=by
 have h0:HR g f w0:=⟨fun id o ho=>by
   obtain ⟨b,c,q1,q2,q3⟩:=h.ob id o ho;exact ⟨b,c,q1,by rw[hw0.1];exact q2,q3.mono (.refl _) q1 (by rw[hw0.1])⟩,h.inj⟩
 have hs:w0.heap.size=w.heap.size:=by rw[hw0.1]
 have hcc:OR (g.bind new (w0.heap.size,0) l e) w' new w0.heap.size 0 (.cells e cs):=
  ⟨⟨arr,by rw[hw];exact heap_alloc_new w0 _,by rw[Gh.uO];omega,vs,hc.mono (Gh.sZ hn),fun j v hv=>by rw[Nat.zero_add];exact hvs j v hv⟩,Gh.xR _ _ _ _ _⟩
 obtain ⟨r1,r2⟩:=h0.alloc hn (o':=.cells e cs) hw hcc;rw[hs] at r1 r2;exact ⟨hv,r1,⟨r2.os.trans hw0.2.1,r2.tape.trans hw0.2.2.1,r2.output.trans hw0.2.2.2,by have:=r2.size;omega,r2.le,fun b hb hm=>(r2.old b (by omega) hm).trans (by rw[hw0.1]),fun b hb hm=>r2.own b (by omega) hm⟩,fun id hne=>Gh.dQ _ _ _ _ hne,fun qw=>by cases qw⟩
theorem zb (hE:bC E g) (h:HR g f w) {new:Nat} (hn:g.ρ new=none) {nt:Nat} {tm:Tf} {a:Act} (hfr:FR g nt tm a.tmps) {t:TypeId} {len:Nat} {parts:Array (Nat×Operand)} {pcs:List (Nat×List SV)}
  (hpc:ea tm parts.toList=some pcs) {v:SV} {us:List Up} (ho0:gQ E new t len pcs=some (v,us)):
  ∃r w' g',(Instr.buildSlice t len (parts.map fun (i,x)=>(i,a.eval x))).run E.P w= .ok r w'/\cx g f w v us new r g' w':=by
 obtain ⟨i,hi,ho⟩:=af ho0;obtain ⟨e,he,ho⟩:=af ho;obtain ⟨ie,hie,ho⟩:=af ho;obtain ⟨hc,ho⟩:=ar ho;obtain ⟨cs,hf,ho⟩:=af ho;cases ho;rw[Bool.and_eq_true] at hc;have hsm:=(bk _ _).1 hc.2;have hd:=(hE.ty t i hi).desc;rw[jH he] at hd;have hT:=hE.ty e ie hie;obtain ⟨it,z,q1,q2,_,_,q5,_⟩:=hT.info;obtain ⟨z1,z2,z3,z4,z5⟩:=qR (g:=g) hT q1 q5 hc.1 len;obtain ⟨hl,hpt⟩:=rZ hfr parts.toList pcs hpc;obtain ⟨arr,f1,f2⟩:=oY (jb ie.size) (parts.map fun (i,x)=>(i,a.eval x)).toList pcs _ _ cs z1 (by simpa using hl) (fun j i v i' xs h1 h2=>hpt j i v i' xs (by simpa using h1) h2) hf
 have hv:VR (g.bind new (w.heap.size,0) 0 e) (.slice (some ⟨w.heap.size,0,none⟩) len len) (.sl new 0 len (.k len)):=.sl (id:=new) (off:=0) (o:=0) (b:=w.heap.size) (cap:=.k len) (Gh.da _ _ _ _ _) (Nat.le_refl _) (fun m hm=>by cases hm;rfl) (fun e hm=>by cases hm)
 refine ⟨_,_,_,?_,h.row hn (w0:=w) (w':=w.alloc (.cells arr e)) ⟨rfl,rfl,rfl,rfl⟩ rfl f2 (fun j v hv=>by simpa using hv) (Nat.zero_le _) hv⟩
 by_cases h0:len=0
 ·subst h0;have hcs:pcs= []:=by
   cases pcs with
   |nil=>rfl
   |cons p ps=>
    obtain ⟨q,r1,r2⟩:=af (show aj (jb ie.size p.1) (fun q=>sel (Nat.beq p.2.length q.2&&Nat.ble (Nat.add q.1 q.2) (rep ie.zero 0).length) (fR (jb ie.size) (Sim.bF (rep ie.zero 0) q.1 p.2) ps) none)=some cs from hf)
    cases r1;obtain ⟨r3,_⟩:=ar r2;rw[Bool.and_eq_true] at r3;have:=(bk _ _).1 r3.2;simp[rep] at this;omega
  subst hcs;have hp0:parts= #[]:=by apply Array.ext';exact List.eq_nil_of_length_eq_zero (by simpa using hl)
  subst hp0;simp at f1;simp[Instr.fill] at f1;simp[Instr.buildSlice,run_underlying (show E.P.underlying t=some (.slice e) from hd),sizeOf,typeInfo,q1,Instr.fill,newRow];rw[<-f1];congr 2;apply Array.ext';simp
 ·have sd:¬len*it.size=0:=by
   rw[z2];intro he;rcases Nat.mul_eq_zero.1 he with he|he<;>omega
  have hsm':¬len*it.size>2 ^ 24:=by rw[z2];have:len*ie.size<=16777216:=hsm;omega
  refine run_buildSlice w t e len _ _ it z hd q1 q5 hsm' sd ?_;rw[z2] at f1 ⊢;exact f1
theorem NS (hE:bC E g) (h:HR g f w) {new:Nat} (hn:g.ρ new=none) {t:TypeId} {l c:Nat} {kl kc:IntKind} {v:SV} {us:List Up} (ho0:qg E new t l c=some (v,us)):
  ∃r w' g',(Instr.makeSlice t (.int kl (.ofNat l)) (.int kc (.ofNat c))).run E.P w= .ok r w'/\cx g f w v us new r g' w':=by
 obtain ⟨i,hi,ho⟩:=af ho0;obtain ⟨e,he,ho⟩:=af ho;obtain ⟨ie,hie,ho⟩:=af ho;obtain ⟨hc,ho⟩:=ar ho;cases ho;rw[Bool.and_eq_true,Bool.and_eq_true] at hc;have h1:=(bk _ _).1 hc.1;have h2:=(bk _ _).1 hc.2.1;have hd:=(hE.ty t i hi).desc;rw[jH he] at hd;have hT:=hE.ty e ie hie;obtain ⟨it,z,q1,q2,_,_,q5,_⟩:=hT.info;obtain ⟨z1,z2,z3,z4,z5⟩:=qR (g:=g) hT q1 q5 hc.2.2 c;have hb:it.bytes*c<=65536*1000000:=Nat.mul_le_mul z4 h2;have fj:=run_make w t e it z hd q1 q5 kl kc (.ofNat l) (.ofNat c) (by simp) (by simp;omega) (by
  have:((it.bytes*c:Nat):Int)<=281474976710656:=by omega
  simpa using this) (by simp;omega)
 simp only[Int.ofNat_eq_natCast,Int.toNat_natCast] at fj;have hv:VR (g.bind new (w.heap.size,0) 0 e) (.slice (some ⟨w.heap.size,0,none⟩) l c) (.sl new 0 l (.k c)):=.sl (id:=new) (off:=0) (o:=0) (b:=w.heap.size) (cap:=.k c) (Gh.da _ _ _ _ _) h1 (fun m hm=>by cases hm;rfl) (fun e hm=>by cases hm)
 exact ⟨_,_,_,fj,h.row hn (w0:=w) ⟨rfl,rfl,rfl,rfl⟩ rfl z1 (fun j v hv=>by rw[Array.getElem?_toList] at hv;exact hv) (Nat.zero_le _) hv⟩
end
section
variable {E:Env} {g:Gh} {f:Hf} {w:World}
theorem zN (hE:bC E g) (h:HR g f w) {new:Nat} {s:TypeId} {k:Nat} {x v:SV} {u:Value} (hu:VR g u x) {us:List Up} (ho0:iN E s k x=some (v,us)):
  ∃r,(Instr.fieldAt s u k).run E.P w= .ok r w/\cx g f w v us new r g w:=by
 obtain ⟨i,p,hi,hp,ho⟩:=az ho0;obtain ⟨fs,hfs,ho⟩:=af ho;obtain ⟨fl,hfl,ho⟩:=af ho;obtain ⟨fi,hfi,ho⟩:=af ho;obtain ⟨hc,ho⟩:=ar ho;cases ho;obtain rfl:=iB hp;have hd:=(hE.ty s i hi).desc;rw[vy hfs] at hd;obtain ⟨a,hu',ha,hin⟩:=hd;subst ha;rw[List.getElem?_map] at hfl;cases hj:a.toList[k]? with
 |none=>rw[hj] at hfl;simp at hfl
 |some fd=>
  rw[hj] at hfl;simp at hfl;subst hfl;have hj':a[k]? =some fd:=by simpa using hj
  have hs:=gu (hE.ty _ fi hfi) w;have h1:=(bk _ _).1 hc;have hne:¬fi.size=0:=by omega
  cases hu with
  | @ptr _ _ b o hρ=>
   refine ⟨.pointer (some ⟨b,o+(p.2+fd.offset),none⟩),?_,cx.same h (.ptr hρ)⟩;simp only[Instr.fieldAt,Sem.run_bind,run_underlying hu',Result.andThen_ok,hj',Instr.sureAddr,Sem.run_pure,fieldPlace,hs,if_neg hne,Sem.run_ite,add_lit,Nat.add_assoc]
theorem Kq (hE:bC E g) (h:HR g f w) {new:Nat} {t:TypeId} {k:Nat} {x v:SV} {u:Value} (hu:VR g u x) {us:List Up} (ho0:mT E t k x=some (v,us)):
  ∃r,(Instr.field t u k).run E.P w= .ok r w/\cx g f w v us new r g w:=by
 obtain ⟨i,cs,hi,hp,ho⟩:=az ho0;obtain ⟨fs,hfs,ho⟩:=af ho;obtain ⟨fl,hfl,ho⟩:=af ho;obtain ⟨fi,hfi,ho⟩:=af ho;obtain ⟨z,hz,ho⟩:=af ho;cases ho;obtain rfl:=pn hp;have hd:=(hE.ty t i hi).desc;rw[vy hfs] at hd;obtain ⟨a,hu',ha,hin⟩:=hd;subst ha;rw[List.getElem?_map] at hfl;cases hj:a.toList[k]? with
 |none=>rw[hj] at hfl;simp at hfl
 |some fd=>
  rw[hj] at hfl;simp at hfl;subst hfl;have hj':a[k]? =some fd:=by simpa using hj
  cases hu with
  |agg hc=>
   obtain ⟨r,r1,r2⟩:=oO (hE.ty _ fi hfi) hz hc w;refine ⟨r,?_,cx.same h r2⟩;simp only[Instr.field,Sem.run_bind,run_underlying hu',Result.andThen_ok,hj',asAgg,Sem.run_pure,r1]
theorem Kp (hE:bC E g) (h:HR g f w) {new:Nat} {t:TypeId} {k:Nat} {kk:IntKind} {x v:SV} {u:Value} (hu:VR g u x) {us:List Up} (ho0:jM E t k x=some (v,us)):
  ∃r,(Instr.index t u (.int kk (.ofNat k))).run E.P w= .ok r w/\cx g f w v us new r g w:=by
 obtain ⟨i,hi,ho⟩:=af ho0;have hd:=(hE.ty t i hi).desc;generalize i.desc=D at hd ho;cases D with
 |string=>
  obtain ⟨s,hs,ho⟩:=af (show aj (strOf x) (fun s=>aj (s.data.toList[k]?) fun b=>some (SV.int .u8 (.lit (.ofNat b.toNat)),([]:List Up)))=some (v,us) from ho)
  obtain ⟨b,hb,ho⟩:=af ho;cases ho;obtain rfl:=fc hs;cases hu;refine ⟨.int .u8 b.toNat,?_,cx.same h (.int _ _ (by simp[SI.ev]))⟩
  have hlt:k<s.data.toList.length:=(List.getElem?_eq_some_iff.1 hb).1;have Zq:k<s.size:=by simpa using hlt
  have uq:s[k]? =some b:=by
   rw[getElem?_pos s k Zq];have:s.data.toList[k]=b:=(List.getElem?_eq_some_iff.1 hb).2;rw[<-this];rfl
  have h0:(0:Int)<=Int.ofNat k:=by simp
  simp only[Instr.index,asIntOf,Sem.run_bind,Sem.run_pure,Result.andThen_ok,run_underlying (show E.P.underlying t=some .string from hd),if_pos h0];simp only[Int.ofNat_eq_natCast,Int.toNat_natCast,uq,Sem.run_pure]
 |array n e=>
  obtain ⟨cs,ie,hcs,hie,ho⟩:=az (show aG (uT x) (E.ty.get e) (fun cs ie=>sel (Nat.ble (Nat.succ k) n) (same (cO ie cs (Nat.mul k ie.size))) none)=some (v,us) from ho)
  obtain ⟨hc,ho⟩:=ar ho;obtain ⟨z,hz,ho⟩:=af ho;cases ho;obtain rfl:=pn hcs;have hlt:k+1<=n:=(bk _ _).1 hc;cases hu with
  |agg hcc=>
   obtain ⟨r,r1,r2⟩:=oO (hE.ty _ ie hie) hz hcc w;refine ⟨r,?_,cx.same h r2⟩;have hin:(0:Int)<=Int.ofNat k/\Int.ofNat k<(n:Int):=⟨by simp,by simp;omega⟩
   simp only[Instr.index,asIntOf,Sem.run_bind,Sem.run_pure,Result.andThen_ok,run_underlying (show E.P.underlying t=some (.array n e) from hd),if_pos hin,gu (hE.ty _ ie hie)];exact r1
 |_=>cases ho
theorem BE (hE:bC E g) {t:TypeId} {k:Nat} {kk:IntKind} {x z:SV} {u:Value} (hu:VR g u x) (ho0:gK E t x k=some z):
  ∃r,(Instr.indexAt t u (.int kk (.ofNat k))).run E.P w= .ok r w/\VR g r z:=by
 obtain ⟨i,hi,ho⟩:=af ho0;have hd:=(hE.ty t i hi).desc;generalize i.desc=D at hd ho;cases D with
 |slice e=>
  obtain ⟨q,hq,ho⟩:=af (show aj (Yi x) (fun q=>pO E e q.1 q.2.1 q.2.2.1 k)=some z from ho)
  obtain ⟨hc,ho⟩:=ar ho;obtain ⟨ie,hie,ho⟩:=af ho;cases ho;obtain rfl:=Uz hq;have hlt:k+1<=q.2.2.1:=(bk _ _).1 hc;cases hu with
  | @sl _ _ _ b o c _ hρ hn dW ov=>
   refine ⟨.pointer (some ⟨b,o+(q.2.1+k*ie.size),none⟩),?_,.ptr hρ⟩;have hin:(0:Int)<=Int.ofNat k/\Int.ofNat k<(q.2.2.1:Int):=⟨by simp,by simp;omega⟩
   simp only[Instr.indexAt,asIntOf,Sem.run_bind,Sem.run_pure,Result.andThen_ok,run_underlying (show E.P.underlying t=some (.slice e) from hd),if_pos hin,gu (hE.ty _ ie hie),Sem.run_ite,add_lit];simp[Nat.add_assoc]
 |array n e=>
  obtain ⟨q,hq,ho⟩:=af (show aj (ld x) (fun q=>pO E e q.1 q.2 n k)=some z from ho)
  obtain ⟨hc,ho⟩:=ar ho;obtain ⟨ie,hie,ho⟩:=af ho;cases ho;obtain rfl:=iB hq;have hlt:k+1<=n:=(bk _ _).1 hc;cases hu with
  | @ptr _ _ b o hρ=>
   refine ⟨.pointer (some ⟨b,o+(q.2+k*ie.size),none⟩),?_,.ptr hρ⟩;have hin:(0:Int)<=Int.ofNat k/\Int.ofNat k<(n:Int):=⟨by simp,by simp;omega⟩
   simp only[Instr.indexAt,asIntOf,Sem.run_bind,Sem.run_pure,Result.andThen_ok,run_underlying (show E.P.underlying t=some (.array n e) from hd),Instr.sureAddr,if_pos hin,gu (hE.ty _ ie hie),Sem.run_ite,add_lit];simp[Nat.add_assoc]
 |_=>cases ho
theorem run_sliceBound {P:Program} {k:IntKind} {n y:Nat} (h1:n<=y) (c:BoundsCode):(Instr.sliceBound (.int k (.ofNat n)) y c).run P w= .ok n w:=by
 have:(0:Int)<=Int.ofNat n/\Int.ofNat n<=(y:Int):=⟨by simp,by simp;omega⟩
 simp only[Instr.sliceBound,asIntOf,Sem.run_bind,Sem.run_pure,Result.andThen_ok,Sem.run_ite];rw[if_pos this];rfl
theorem nw {nt:Nat} {tm:Tf} {a:Act} (hfr:FR g nt tm a.tmps) {x:Option Operand} {r:Option Nat} (h:dz tm x=some r):
  (x=none/\r=none)\/∃y k n,x=some y/\r=some n/\a.eval y= .int k (.ofNat n):=by
 cases x with
 |none=>cases h;exact .inl ⟨rfl,rfl⟩
 |some y=>
  obtain ⟨v,hv,h⟩:=af h;obtain ⟨n,hn,h⟩:=af h;cases h;obtain ⟨k,rfl⟩:=kz hn;have:=jX hfr hv;generalize hu:a.eval y=u at this;cases this with
  |int _ _ e=>exact .inr ⟨y,k,n,rfl,rfl,by rw[hu,e];rfl⟩
theorem iw {P : Program} {nt : Nat} {tm : Tf} {a : Act} (hfr : FR g nt tm a.tmps) {lo hi mx : Option Operand} {l u m : Option Nat} (hl : dz tm lo = some l) (hu : dz tm hi = some u) (hm : dz tm mx = some m) (isS : Bool) (len cap : Nat)
    (h1 : l.getD 0 <= u.getD len) (h2 : u.getD len <= m.getD cap) (h3 : m.getD cap <= cap) (h4 : m ≠ none -> u ≠ none) :
    (Instr.sliceBounds isS len cap (lo.map a.eval) (hi.map a.eval) (mx.map a.eval)).run P w = .ok (l.getD 0, u.getD len, m.getD cap) w := by
  rcases nw hfr hl with ⟨rfl, rfl⟩ | ⟨y1, k1, n1, rfl, rfl, e1⟩ <;> rcases nw hfr hu with ⟨rfl, rfl⟩ | ⟨y2, k2, n2, rfl, rfl, e2⟩ <;> rcases nw hfr hm with ⟨rfl, rfl⟩ | ⟨y3, k3, n3, rfl, rfl, e3⟩ <;>
    simp only [Option.getD_some, Option.getD_none] at h1 h2 h3 <;>
    first
      | exact absurd rfl (h4 (Option.some_ne_none _))
      | (simp only [Instr.sliceBounds, Option.map_some, Option.map_none, Sem.run_bind, Sem.run_pure, Result.andThen_ok, Option.getD_some, Option.getD_none, Option.isSome_some, Option.isSome_none]
         try simp only [e3, run_sliceBound (P := P) (w := w) (k := k3) h3, Result.andThen_ok]
         try simp only [e2, run_sliceBound (P := P) (w := w) (k := k2) h2, Result.andThen_ok]
         try simp only [e1, run_sliceBound (P := P) (w := w) (k := k1) h1, Result.andThen_ok])
theorem nL {m:Option Nat} (h:fa m=true):m.getD 0=0:=by
 cases m with
 |none=>rfl
 |some n=>exact (beq_iff _ _).1 h
theorem FT (a:Addr):a.add 0=a:=by unfold Addr.add;split<;>simp_all
theorem Pp {id off l h b o:Nat} {size:Nat} {m:Cp} {M:Nat} (hρ:g.ρ id=some (b,o)) (h1:l<=h) (h2:h<=M) (hm:∀k,m= .k k->M=k) (hz:∀e,m= .u e->g.et id=e/\size=g.sz e/\off+M*size<=g.lim id):
  VR g (.slice (some (if M=l then ⟨b,o+off,none⟩ else (⟨b,o+off,none⟩:Addr).add (l*size))) (h-l) (M-l)) (mB id off l h size m):=by
 by_cases h0:l=0
 ·subst h0;have e1:mB id off 0 h size m= .sl id off h m:=rfl;have e2:(if M=0 then (⟨b,o+off,none⟩:Addr) else (⟨b,o+off,none⟩:Addr).add (0*size))=⟨b,o+off,none⟩:=by
   split
   ·rfl
   ·rw[Nat.zero_mul,FT]
  rw[e1,e2];exact .sl hρ (by omega) (fun k hk=>by rw[hm k hk];omega) (fun e hn=>by obtain ⟨q0,q1,q2⟩:=hz e hn;rw[<-q1];exact ⟨q0,q2⟩)
 ·have e0:Nat.beq l 0=false:=by rw[beq_eq];simpa using h0
  by_cases hlt:l+1<=h
  ·have e1:mB id off l h size m= .sl id (off+l*size) (h-l) (j3 m l):=by
    unfold mB;rw[e0,show Nat.ble (Nat.succ l) h=true from (bk _ _).2 hlt];rfl
   rw[e1,if_neg (by omega),add_lit,Nat.add_assoc]
   refine .sl hρ (by omega) (fun k hk=> ?_) (fun e hk=> ?_)
   ·cases m with
    |u e'=>cases hk
    |k c=>cases hk;rw[hm c rfl];rfl
   ·cases m with
    |k c=>cases hk
    |u e'=>
     cases hk;obtain ⟨q0,q1,q2⟩:=hz _ rfl;rw[<-q1];refine ⟨q0,?_⟩;have:l*size+(M-l)*size=M*size:=by rw[<-Nat.add_mul];congr 1;omega
     show off+l*size+(M-l)*size<=g.lim id;omega
  ·have e1:mB id off l h size m= .sle:=by
    unfold mB;rw[e0,show Nat.ble (Nat.succ l) h=false from by rw[ble_eq];simpa using hlt]
   rw[e1];have:h-l=0:=by omega
   rw[this];exact .sle
theorem vG {e:TypeId} {id off n:Nat} {cap:Cp} {lo hi mx:Option Nat} {z:SV} (h:iZ E e id off n cap lo hi mx=some z):
  ∃ie,E.ty.get e=some ie/\lo.getD 0<=hi.getD n/\hi.getD n<=reach cap n/\(∀m,mx=some m->hi.getD n<=m/\m<=reach cap n)/\(∀e',cap= .u e'->e'=e)/\z=mB id off (lo.getD 0) (hi.getD n) ie.size (orC mx cap):=by
 obtain ⟨ie,hie,h⟩:=af h;obtain ⟨hc,h⟩:=ar h;cases h;rw[Bool.and_eq_true,Bool.and_eq_true,Bool.and_eq_true] at hc;refine ⟨ie,hie,(bk _ _).1 hc.2.1,(bk _ _).1 hc.2.2.1,fun m hm=> ?_,fun e' he=>by subst he;exact (beq_iff _ _).1 hc.1,rfl⟩
 subst hm;have:=hc.2.2.2;simp only[F4,Bool.and_eq_true] at this;exact ⟨(bk _ _).1 this.1,(bk _ _).1 this.2⟩
theorem NN (hE:bC E g) {nt:Nat} {tm:Tf} {a:Act} (hfr:FR g nt tm a.tmps) {t:TypeId} {x z:SV} {v:Value} (hv:VR g v x) {lo hi mx:Option Operand} {l u m:Option Nat} (hl:dz tm lo=some l) (hu:dz tm hi=some u)
  (hm:dz tm mx=some m) (ho0:qb E t x l u m=some z):
  ∃r,(Instr.sliceAt t v (lo.map a.eval) (hi.map a.eval) (mx.map a.eval)).run E.P w= .ok r w/\VR g r z:=by
 obtain ⟨i,hi',ho⟩:=af ho0;obtain ⟨hmh,ho⟩:=ar ho;have h4:m≠none->u≠none:=by
  intro hm hu;subst hu;cases m with
  |none=>exact hm rfl
  |some k=>simp[F5] at hmh
 have hd:=(hE.ty t i hi').desc;generalize i.desc=D at hd ho;cases D with
 |string=>
  obtain ⟨s,hs,ho⟩:=af (show aj (strOf x) (fun s=>JP s l u m)=some z from ho)
  obtain rfl:=fc hs;cases hv;cases m with
  |some _=>cases ho
  |none=>
   obtain ⟨hc,ho⟩:=ar (show sel (Nat.ble (l.getD 0) (u.getD s.size)&&Nat.ble (u.getD s.size) s.size) (some (SV.str (s.extract (l.getD 0) (u.getD s.size)))) none=some z from ho);cases ho;rw[Bool.and_eq_true] at hc;have hmx:mx=none:=by
    rcases nw hfr hm with ⟨rfl,_⟩|⟨_,_,_,_,hx,_⟩
    ·rfl
    ·simp at hx
   subst hmx;have hb:=iw (P:=E.P) (w:=w) hfr hl hu (mx:=none) (m:=none) rfl false s.size s.size ((bk _ _).1 hc.1) ((bk _ _).1 hc.2) (Nat.le_refl _) (by simp)
   refine ⟨.string (s.extract (l.getD 0) (u.getD s.size)),?_,.str _⟩;simp only[Option.map_none] at hb;simp only[Instr.sliceAt,Sem.run_bind,run_underlying (show E.P.underlying t=some .string from hd),Result.andThen_ok,Instr.slice,Option.map_none,Option.isSome_none,Bool.false_eq_true,if_false,Sem.run_ite,Sem.run_pure,hb]
 |slice e=>
  obtain ⟨ie0,hie0,ho⟩:=af (show aj (E.ty.get e) (fun _=>AY x E e l u m)=some z from ho)
  cases hv with
  | @sl id off n b o c cap hρ hn dW ov=>
   obtain ⟨ie,hie,c1,c2,c3,c4,rfl⟩:=vG (show iZ E e id off n cap l u m=some z from ho);have hcc:reach cap n<=c:=by
    cases cap with
    |u e'=>exact hn
    |k m=>rw[dW m rfl];exact Nat.le_refl _
   have hb:=iw (P:=E.P) (w:=w) hfr hl hu hm true n c c1 (by
    cases m with
    |none=>simp;omega
    |some k=>exact (c3 k rfl).1) (by
    cases m with
    |none=>simp
    |some k=>simp;have:=(c3 k rfl).2;omega) h4
   refine ⟨_,?_,Pp (M:=m.getD c) hρ c1 (by
    cases m with
    |none=>simp;omega
    |some k=>exact (c3 k rfl).1) (fun k hk=> ?_) (fun e' hk=> ?_)⟩
   ·simp only[Instr.sliceAt,Sem.run_bind,run_underlying (show E.P.underlying t=some (.slice e) from hd),Result.andThen_ok,Instr.slice,hb,gu (hE.ty _ ie hie),Sem.run_pure];congr 2;split<;>rfl
   ·cases m with
    |some k'=>cases hk;rfl
    |none=>exact dW k hk
   ·cases m with
    |some k'=>cases hk
    |none=>
     have hk:cap= .u e':=hk;obtain ⟨l1,l2⟩:=ov e' hk;have he:=c4 e' hk;subst he;have hsz:=hE.size hie;exact ⟨l1,hsz.symm,by rw[<-hsz];exact l2⟩
  | @sle ad c=>
   obtain ⟨hc,ho⟩:=ar (show sel (fa l&&(fa u&&m.isNone)) (some SV.sle) none=some z from ho);cases ho;rw[Bool.and_eq_true,Bool.and_eq_true] at hc;have z1:=nL hc.1;have z2:=nL hc.2.1;have hm0:m=none:=by cases m with|none=>rfl|some k=>simp at hc
   subst hm0;have hb:=iw (P:=E.P) (w:=w) hfr hl hu hm true 0 c (by rw[z1];omega) (by rw[z2];simp) (Nat.le_refl _) h4
   rw[z1,z2] at hb;refine ⟨.slice (if c=0 then ad else ad.map (·.add (0*ie0.size))) (0-0) (c-0),?_,.sle⟩
   simp only[Instr.sliceAt,Sem.run_bind,run_underlying (show E.P.underlying t=some (.slice e) from hd),Result.andThen_ok,Instr.slice,hb,gu (hE.ty _ ie0 hie0),Sem.run_pure,Option.getD_none]
  |aU=>
   obtain ⟨hc,ho⟩:=ar (show sel (fa l&&(fa u&&fa m)) (some SV.aU) none=some z from ho);cases ho;rw[Bool.and_eq_true,Bool.and_eq_true] at hc;have z1:=nL hc.1;have z2:=nL hc.2.1;have z3:=nL hc.2.2;have hb:=iw (P:=E.P) (w:=w) hfr hl hu hm true 0 0 (by rw[z1];omega) (by rw[z2];omega) (by rw[z3];omega) h4
   rw[z1,z2,z3] at hb;refine ⟨.slice none 0 0,?_,.aU⟩;simp only[Instr.sliceAt,Sem.run_bind,run_underlying (show E.P.underlying t=some (.slice e) from hd),Result.andThen_ok,Instr.slice,hb,gu (hE.ty _ ie0 hie0),Sem.run_pure];simp
  |_=>cases ho
 |array n e=>
  obtain ⟨q,hq,ho⟩:=af (show aj (ld x) (fun q=>iZ E e q.1 q.2 n (.k n) l u m)=some z from ho)
  obtain rfl:=iB hq;obtain ⟨ie,hie,c1,c2,c3,c4,rfl⟩:=vG ho;have c2:u.getD n<=n:=c2;have c3:∀k,m=some k->u.getD n<=k/\k<=n:=c3;cases hv with
  | @ptr _ _ b o hρ=>
   have hb:=iw (P:=E.P) (w:=w) hfr hl hu hm false n n c1 (by
    cases m with
    |none=>simpa using c2
    |some k=>exact (c3 k rfl).1) (by
    cases m with
    |none=>simp
    |some k=>simpa using (c3 k rfl).2) h4
   refine ⟨_,?_,Pp (M:=m.getD n) hρ c1 (by
    cases m with
    |none=>simpa using c2
    |some k=>exact (c3 k rfl).1) (fun k hk=> ?_) (fun e' hk=>by cases m<;>cases hk)⟩
   ·simp only[Instr.sliceAt,Sem.run_bind,run_underlying (show E.P.underlying t=some (.array n e) from hd),Result.andThen_ok,Instr.sureAddr,Sem.run_pure,hb,gu (hE.ty _ ie hie)]
   ·cases m with
    |some k'=>cases hk;rfl
    |none=>cases hk;rfl
 |_=>cases ho
end
section
variable {E:Env} {g:Gh} {f:Hf} {w:World}
theorem mG {id off n:Nat} {old:List SV} (h:eV f id off n=some old):∃x e cs,f id=some x/\cL (some x) off n=some (e,cs)/\off+n<=cs.length/\old=(cs.drop off).take n:=by
 obtain ⟨p,hp,h⟩:=af h;obtain ⟨hc,h⟩:=ar h;cases h;cases hf:f id with
 |none=>rw[hf] at hp;cases hp
 |some x=>exact ⟨x,p.1,p.2,rfl,by rw[<-hf];exact hp,(bk _ _).1 hc,rfl⟩
theorem zw (s:ByteArray):VCs g (byteCells s) (ti s):=by
 unfold byteCells ti;generalize s.data.toList=l;induction l with
 |nil=>exact .nil
 |cons b l ih=>exact .cons rfl (.int _ _ (by simp[SI.ev])) ih
theorem Yf {P : Program} {size : Nat} {tx : TypeId} (hk : (∃ e', P.underlying tx = some (.slice e')) \/ P.underlying tx = some .string) (h : HR g f w) {x : SV} {u : Value} (hu : VR g u x) {q : Nat × List SV} (hs : iu f size x = some q) :
    ∃ news, Src P size tx u q.1 news w /\ VCs g news q.2 := by
  have row : dO f size x = some q -> ∃ news, Src P size tx u q.1 news w /\ VCs g news q.2 := by
    intro hs
    obtain ⟨n, xs, h1, h2, h3⟩ := az hs
    cases h3
    rcases rp h1 with ⟨id, off, c, rfl⟩ | ⟨rfl, rfl⟩ | ⟨rfl, rfl⟩
    · cases hu with
      | @sl _ _ _ b o c' _ hρ hn dW ov =>
        obtain ⟨x0, e, cs, q1, q1', q2, rfl⟩ := mG (show eV f id off (n * size) = some xs from h2)
        obtain ⟨vs, v1, v2, v3⟩ := OR.bT (h.at q1 hρ).2 q1' q2
        have ado : ∀ (j : Nat) (v : Value), vs[j]? = some v -> w.cell? ((⟨b, o + off, none⟩ : Addr).add j) = some v := fun j v hv => by rw [add_lit]; exact v3 j v hv
        exact ⟨vs, ⟨hk, fun _ => rfl, run_firstCells_some w size n _ n c' vs v1 ado, run_firstCells_some w.drew size n _ n c' vs v1 (by simpa using ado), v1, v2.one⟩, v2⟩
    · cases hu
      cases h2
      exact ⟨[], ⟨hk, fun _ => rfl, run_firstCells_none w size 0 0 0, run_firstCells_none w.drew size 0 0 0, by simp, fun _ h => by cases h⟩, .nil⟩
    · cases hu with
      | @sle ad c =>
        cases h2
        refine ⟨[], ⟨hk, fun _ => rfl, ?_, ?_, by simp, fun _ h => by cases h⟩, .nil⟩ <;>
          (cases ad with
           | none => exact run_firstCells_none _ size 0 0 c
           | some a => exact run_firstCells_some _ size 0 a 0 c [] (by simp) (by simp))
  cases hu with
  | str s =>
    obtain ⟨h1, h2⟩ := ar (show sel (Nat.beq size 1) (some (s.size, ti s)) none = some q from hs)
    cases h2
    have := (beq_iff _ _).1 h1
    subst this
    refine ⟨byteCells s, ⟨hk, fun _ => rfl, firstCells_string s w, firstCells_string s w.drew, by rw [byteCells_length, Nat.mul_one], fun u hu => by
      obtain ⟨_, _, rfl⟩ := List.mem_map.1 hu
      rfl⟩, zw s⟩
  | _ => exact row hs
theorem rz (hE:bC E g) (h:HR g f w) {new:Nat} (hn:g.ρ new=none) {t tx ty e:TypeId} {ie:TI} (ht:E.P.underlying t=some (.slice e)) (hie:E.ty.get e=some ie) (hok:dP ie=true)
  {base:Option Addr} {n c m:Nat} {olds news:List Value} {old xs:List SV} {u:Value} (ho:VCs g olds old) (hol:olds.length=n*ie.size)
  (hold:(Builtin.firstCells ie.size n (.slice base n c)).run E.P w.drew= .ok olds.toArray w.drew) (hs:Src E.P ie.size tx u m news w) (hx:VCs g news xs) (hgr:c<n+m) (h1:n<=1000000) (h2:m<=1000000):
  ∃r w' g',(Builtin.append_ #[t,tx] ty #[.slice base n c,u]).run E.P w= .ok r w'/\cx g f w (.sl new 0 (n+m) (.u e)) [(new,some (.cells e (old++xs)))] new r g' w':=by
 have hT:=hE.ty e ie hie;obtain ⟨it,z,q1,q2,_,_,q5,_⟩:=hT.info;obtain ⟨_,_,z3,z4,z5⟩:=qR (g:=g) hT q1 q5 hok 0;have fj:=run_append_grow_src (P:=E.P) w t tx ty e it z ht q1 q5 base n c olds (by rw[q2];exact hold) u m news (by rw[q2];exact hs) hgr (by omega) (growslice_fits hgr (by
  have:(n+m)*it.bytes<=2000000*65536:=Nat.mul_le_mul (by omega) z4
  omega))
 have hge:=grownCap_ge w (n+m) c e;have hnl:=hs.newsLen;refine ⟨_,_,_,fj,h.row hn (w0:=w.drew) (l:=grownCap w (n+m) c e*ie.size) ⟨rfl,rfl,rfl,rfl⟩ rfl (ho.append hx) (fun j v hv=> ?_) ?_ ?_⟩
 ·rw[Array.getElem?_append_left,List.getElem?_toArray]
  ·exact hv
  ·simpa using (List.getElem?_eq_some_iff.1 hv).1
 ·simp only[Array.size_append,List.size_toArray,List.length_append,size_zeroCells,z5,hol,hnl];rw[<-Nat.add_mul,<-Nat.add_mul];exact Nat.mul_le_mul_right _ (by omega)
 ·exact .sl (id:=new) (off:=0) (o:=0) (b:=w.heap.size) (cap:=.u e) (Gh.da _ _ _ _ _) hge (fun k hk=>by cases hk) (fun e' he=>by
   cases he;refine ⟨Gh.xR _ _ _ _ _,?_⟩;rw[Gh.uO];show 0+grownCap w (n+m) c e*g.sz e<=_;rw[hE.size hie];omega)
theorem ss {P:Program} {t tx ty e:TypeId} {it:TypeInfo} (ht:P.underlying t=some (.slice e)) (hi:P.info? e=some it) {base:Option Addr} {n c:Nat} (hnc:n<=c) {u:Value} (hs:Src P it.size tx u 0 [] w):
  (Builtin.append_ #[t,tx] ty #[.slice base n c,u]).run P w= .ok (.slice base n c) w:=by
 have hc:=hs.cells;rcases hs.kind with ⟨e',hk⟩|hk<;>cases base<;>simp[Builtin.append_,run_underlying ht,run_underlying hk,sizeOf,typeInfo,hi,hs.len,hnc,hc,storeCells]
theorem zx {P:Program} {t tx ty e:TypeId} {it:TypeInfo} (ht:P.underlying t=some (.slice e)) (hi:P.info? e=some it) {b o n c m:Nat} {news:List Value} {u:Value} (hs:Src P it.size tx u m news w) (xJ:n+m<=c) {w':World}
  (hst:(storeCells ⟨b,o+n*it.size,none⟩ news 0).run P w= .ok () w'):
  (Builtin.append_ #[t,tx] ty #[.slice (some ⟨b,o,none⟩) n c,u]).run P w= .ok (.slice (some ⟨b,o,none⟩) (n+m) c) w':=by
 rcases hs.kind with ⟨e',hk⟩|hk<;>simp[Builtin.append_,run_underlying ht,run_underlying hk,sizeOf,typeInfo,hi,hs.len,xJ,hs.cells,add_lit,hst]
theorem aeF (hE:bC E g) {tx:TypeId} {ix:TI} (hix:E.ty.get tx=some ix) (hr:oo ix.desc=true):(∃e',E.P.underlying tx=some (.slice e'))\/E.P.underlying tx=some .string:=by
 have hd:=(hE.ty tx ix hix).desc;generalize ix.desc=D at hd hr;cases D<;>simp[oo] at hr
 ·exact .inr hd
 ·exact .inl ⟨_,hd⟩
theorem W2 {x:SV} (h:DY x=true):(∃i o n c,x= .sl i o n c)\/x= .aU\/x= .sle:=by
 cases x<;>first|exact .inl ⟨_,_,_,_,rfl⟩|exact .inr (.inl rfl)|exact .inr (.inr rfl)|cases h
theorem cx.kill (h:HR g f w) {id new:Nat} {v:SV} {r:Value} {us:List Up} {g':Gh} {w':World} (hp:cx g (upF f (id,none)) w v us new r g' w'):cx g f w v ((id,none)::us) new r g' w':=
 ⟨hp.val,hp.hr,(h.kill id).2.trans hp.fr,hp.ro,fun qw=>by cases qw⟩
theorem Mh (hE:bC E g) (h:HR g f w) {new:Nat} (hn:g.ρ new=none) {t tx ty:TypeId} {ix:TI} {s x:SV} {u1 u2:Value} (h1:VR g u1 s) (h2:VR g u2 x) (hix:E.ty.get tx=some ix) (fM:oo ix.desc=true) {v:SV} {us:List Up}
  (ho0:gp E f new t s x=some (v,us)):∃r w' g',(Builtin.append_ #[t,tx] ty #[u1,u2]).run E.P w= .ok r w'/\cx g f w v us new r g' w':=by
 obtain ⟨i,hi,ho⟩:=af ho0;obtain ⟨e,he,ho⟩:=af ho;obtain ⟨ie,hie,ho⟩:=af (show aj (E.ty.get e) _=some (v,us) from ho);obtain ⟨hok,ho⟩:=ar ho;obtain ⟨q,hq,ho⟩:=af ho;obtain ⟨hq1,ho⟩:=ar ho;have hq1:q.1<=1000000:=(bk _ _).1 hq1;have ht:=(hE.ty t i hi).desc;rw[jH he] at ht;have ht:E.P.underlying t=some (.slice e):=ht;have hT:=hE.ty e ie hie;obtain ⟨it,z,q1,q2,_,_,q5,_⟩:=hT.info;obtain ⟨_,_,z3,z4,z5⟩:=qR (g:=g) hT q1 q5 hok 0;obtain ⟨news,hs,hx⟩:=Yf (aeF hE hix fM) h h2 hq;rw[aC] at ho;split at ho
 ·rename_i h0;have h0:=(beq_iff _ _).1 h0;obtain ⟨hsl,ho⟩:=ar ho;cases ho;have hnl:=hs.newsLen;rw[h0] at hs hnl;have:news= []:=List.eq_nil_of_length_eq_zero (by simpa using hnl)
  subst this;rw[<-q2] at hs;rcases W2 hsl with ⟨id,off,n,cp,rfl⟩|rfl|rfl
  ·cases h1 with
   |sl hρ hnc dW ov=>exact ⟨_,w,g,ss ht q1 hnc hs,cx.same h (.sl hρ hnc dW ov)⟩
  ·cases h1;exact ⟨_,w,g,ss ht q1 (Nat.le_refl _) hs,cx.same h .aU⟩
  ·cases h1;exact ⟨_,w,g,ss ht q1 (Nat.zero_le _) hs,cx.same h .sle⟩
 ·rename_i h0;have h0:q.1≠0:=fun e=>h0 ((beq_iff _ _).2 e)
  cases h1 with
  |aU=>
   cases (show some (SV.sl new 0 q.1 (.u e),[(new,some (SO.cells e q.2))])=some (v,us) from ho);have:=rz hE h hn (ty:=ty) (n:=0) (c:=0) (base:=none) (olds:= []) (old:= []) ht hie hok .nil (by simp) (run_firstCells_none _ _ _ _ _) hs hx (by omega) (by omega) hq1
   simpa using this
  | @sl id off n b o c cap hρ hnc dW ov=>
   obtain ⟨hn6,ho⟩:=ar (show sel (Nat.ble n 1000000) (sel (Gi n q.1 cap) (aj (eV f id off (Nat.mul n ie.size)) fun old=>mj new e (Nat.add n q.1) (old++q.2) []) (aG (jF (f id)) (eV f id off (Nat.mul n ie.size)) fun p old=>xY new e ie.size id off n cap q.1 q.2 p old)) none=some (v,us) from ho)
   have hn6:n<=1000000:=(bk _ _).1 hn6;rw[aC] at ho;split at ho
   ·rename_i wj;obtain ⟨old,hold,ho2⟩:=af ho;obtain ⟨x0,e',cs',r1,r1',r2,rfl⟩:=mG hold;have hor:=(h.at r1 hρ).2;obtain ⟨vs,v1,v2,v3⟩:=OR.bT hor r1' r2;have BO:(Builtin.firstCells ie.size n (.slice (some ⟨b,o+off,none⟩) n c)).run E.P w.drew= .ok vs.toArray w.drew:=
     run_firstCells_some w.drew ie.size n _ n c vs v1 (fun j v hv=>by rw[add_lit];simpa using v3 j v hv)
    cases cap with
    |u e0=>cases wj
    |k c0=>
     have hc0:=dW c0 rfl;subst hc0;have hgr:c<n+q.1:=(bk _ _).1 wj;cases ho2;exact rz hE h hn ht hie hok v2 v1 BO hs hx hgr hn6 hq1
   ·obtain ⟨p,old,hp,hold,ho⟩:=az ho;have hf:=jO hp;obtain ⟨x0,e',cs',r1,r1',r2,rfl⟩:=mG hold;rw[hf] at r1;cases r1;cases r1';have mv:Cells g w id b o p.1 p.2:=(h.at hf hρ).2;obtain ⟨vs,v1,v2,v3⟩:=mv.bT off (n*ie.size) r2;have BO:(Builtin.firstCells ie.size n (.slice (some ⟨b,o+off,none⟩) n c)).run E.P w.drew= .ok vs.toArray w.drew:=
     run_firstCells_some w.drew ie.size n _ n c vs v1 (fun j v hv=>by rw[add_lit];simpa using v3 j v hv)
    have grow:c<n+q.1->∃r w' g',(Builtin.append_ #[t,tx] ty #[.slice (some ⟨b,o+off,none⟩) n c,u2]).run E.P w= .ok r w'/\cx g f w (.sl new 0 (n+q.1) (.u e)) [(new,some (.cells e ((p.2.drop off).take (n*ie.size)++q.2)))] new r g' w':=
     fun hgr=>rz hE h hn ht hie hok v2 v1 BO hs hx hgr hn6 hq1
    have hxl:q.2.length=q.1*ie.size:=by rw[<-hx.length];exact hs.newsLen
    cases cap with
    |k c0=>
     have hc0:=dW c0 rfl;subst hc0;have ho:sel (Nat.ble (Nat.add n q.1) c)
      (sel (Nat.ble (Nat.add off (Nat.mul (Nat.add n q.1) ie.size)) p.2.length) (some (SV.sl id off (Nat.add n q.1) (.k c),[(id,some (SO.cells p.1 (bF p.2 (Nat.add off (Nat.mul n ie.size)) q.2)))])) none)
      (mj new e (Nat.add n q.1) ((p.2.drop off).take (n*ie.size)++q.2) [])=some (v,us):=ho
     rw[aC] at ho;split at ho
     ·rename_i hle;have hle:n+q.1<=c:=(bk _ _).1 hle;obtain ⟨wm,ho⟩:=ar ho;have wm:off+(n+q.1)*ie.size<=p.2.length:=(bk _ _).1 wm;cases ho;obtain ⟨w',s1,s2,s3,s4,s5,s6,s7⟩:=mv.store (P:=E.P) (off:=off+n*ie.size) hx (by rw[hxl];rw[Nat.add_mul] at wm;omega)
      obtain ⟨t1,t2⟩:=h.write (o':=.cells p.1 (bF p.2 (off+n*ie.size) q.2)) hf hρ s3 s4 s2 s5 s6 s7;refine ⟨_,w',g,zx ht q1 (by rw[q2];exact hs) hle (by rw[q2,Nat.add_assoc];exact s1),⟨?_,t1,t2,fun _ _=>rfl,fun _=>rfl⟩⟩
      exact .sl hρ hle dW (fun e he=>by cases he)
     ·rename_i hle;have hle:¬n+q.1<=c:=fun e=>hle ((bk _ _).2 e)
      cases ho;exact grow (by omega)
    |u e0=>
     obtain ⟨l1,l2⟩:=ov e0 rfl;obtain ⟨hc,ho⟩:=ar (show sel (Nat.ble (Nat.add off (Nat.mul n ie.size)) p.2.length&&Nat.beq e p.1) (mj new e (Nat.add n q.1) ((p.2.drop off).take (n*ie.size)++q.2) [(id,none)]) none=some (v,us) from ho);cases ho;rw[Bool.and_eq_true] at hc;have hc1:off+n*ie.size<=p.2.length:=(bk _ _).1 hc.1;have hc2:e=p.1:=(beq_iff _ _).1 hc.2;have he0:e0=e:=by rw[<-l1,mv.et,hc2]
     subst he0;rw[hE.size hie] at l2;by_cases hle:n+q.1<=c
     ·obtain ⟨⟨cur,m1,m0,vs0,m2,m3⟩,m4⟩:=mv;have xJ:o+(off+n*ie.size)+news.length<=cur.size:=by
       have:=Nat.mul_le_mul_right ie.size hle;rw[hs.newsLen];rw[Nat.add_mul] at this;omega
      have fj:=run_storeCells_at E.P b (o+(off+n*ie.size)) p.1 news 0 cur w m1 (by omega) hs.one
      simp only[Nat.add_zero] at fj;have hol:=v1;have hor:OR (g.bind new (b,o+off) (g.lim id-off) e0) (w.setRow b (cur.toList.take (o+(off+n*ie.size))++news++cur.toList.drop (o+(off+n*ie.size)+news.length)).toArray) new b (o+off) (.cells e0 ((p.2.drop off).take (n*ie.size)++q.2)):=by
       refine ⟨⟨(cur.toList.take (o+(off+n*ie.size))++news++cur.toList.drop (o+(off+n*ie.size)+news.length)).toArray,?_,?_,vs++news,(v2.append hx).mono (Gh.sZ hn),fun j v hv=> ?_⟩,Gh.xR _ _ _ _ _⟩
       ·rw[hc2];exact setRow_heap w b cur _ p.1 _ m1
       ·rw[Gh.uO];simp;omega
       ·rw[List.getElem?_toArray,oG (by simp;omega)]
        by_cases hj:j<n*ie.size
        ·rw[List.getElem?_append_left (by omega)] at hv
         rw[if_neg (by omega)]
         have:=v3 j v hv;rw[wP m1] at this;simpa using this
        ·have hjl:j<vs.length+news.length:=by have:=(List.getElem?_eq_some_iff.1 hv).1;simpa using this
         rw[List.getElem?_append_right (by omega)] at hv
         rw[if_pos (by omega),<-hv]
         congr 1;omega
      obtain ⟨t1,t2⟩:=h.rename (o':=.cells e0 ((p.2.drop off).take (n*ie.size)++q.2)) hn hf hρ (by simp) (fun k hk=>setRow_other w b k _ hk) hor rfl rfl rfl
      refine ⟨_,_,_,zx ht q1 (by rw[q2];exact hs) hle (by rw[q2,Nat.add_assoc];exact fj),⟨?_,t1,t2,fun k hk=>Gh.dQ _ _ _ _ hk,fun qw=>by cases qw⟩⟩
      exact .sl (id:=new) (off:=0) (o:=o+off) (b:=b) (cap:=.u e0) (Gh.da _ _ _ _ _) hle (fun k hk=>by cases hk) (fun e' he=>by
       cases he;refine ⟨Gh.xR _ _ _ _ _,?_⟩;rw[Gh.uO];show 0+c*g.sz e0<=_;rw[hE.size hie];omega)
     ·obtain ⟨k1,_⟩:=h.kill id;obtain ⟨r,w',g',a1,a2⟩:=rz hE k1 hn (ty:=ty) ht hie hok v2 v1 BO hs hx (by omega) hn6 hq1
      exact ⟨r,w',g',a1,a2.kill h⟩
  |_=>cases ho
end
end Go.Sim
namespace Go.Sim
open Go.RowKit Go.MapKept
section
variable {E:Env} {g:Gh} {f:Hf} {w:World}
theorem Uv {P:Program} {size:Nat} (h:HR g f w) {x:SV} {u:Value} (hu:VR g u x) {q:Nat×List SV} (hs:iu f size x=some q) {n:Nat} (hn:n<=q.1):
  (Builtin.lenOf u).run P w= .ok q.1 w/\∃news,(Builtin.firstCells size n u).run P w= .ok news.toArray w/\VCs g news (q.2.take (n*size))/\news.length=n*size:=by
 have row:dO f size x=some q->(Builtin.lenOf u).run P w= .ok q.1 w/\∃news,(Builtin.firstCells size n u).run P w= .ok news.toArray w/\VCs g news (q.2.take (n*size))/\news.length=n*size:=by
  intro hs;obtain ⟨m,xs,h1,h2,h3⟩:=az hs;cases h3;have hn:n<=m:=hn;rcases rp h1 with ⟨id,off,c,rfl⟩|⟨rfl,rfl⟩|⟨rfl,rfl⟩
  ·cases hu with
   | @sl _ _ _ b o c' _ hρ hnc dW ov=>
    obtain ⟨x0,e,cs,q1,q1',q2,rfl⟩:=mG (show eV f id off (m*size)=some xs from h2);have hle:n*size<=m*size:=Nat.mul_le_mul_right _ hn;obtain ⟨vs0,v10,v20,v30⟩:=OR.bT (h.at q1 hρ).2 q1' q2;obtain ⟨vs,v1,v2,v3⟩:∃vs:List Value,vs.length=n*size/\VCs g vs ((cs.drop off).take (n*size))/\∀j v,vs[j]? =some v->w.cell? ⟨b,o+off+j,none⟩=some v:=by
     refine ⟨vs0.take (n*size),by rw[List.length_take];omega,?_,fun j v hv=> ?_⟩
     ·have:=v20.take (n*size);rwa[List.take_take,Nat.min_eq_left hle] at this
     ·rw[List.getElem?_take] at hv;split at hv
      ·exact v30 j v hv
      ·cases hv
    refine ⟨rfl,vs,run_firstCells_some w size n _ m c' vs v1 (fun j v hv=>by rw[add_lit];exact v3 j v hv),?_,v1⟩
    rw[List.take_take,Nat.min_eq_left hle];exact v2
  ·cases hu;cases h2;have:n=0:=by omega
   subst this;exact ⟨rfl,[],run_firstCells_none w size 0 0 0,by simpa using .nil,by simp⟩
  ·cases hu with
   | @sle ad c=>
    cases h2;have:n=0:=by omega
    subst this;refine ⟨rfl,[],?_,by simpa using .nil,by simp⟩
    cases ad with
    |none=>exact run_firstCells_none _ size 0 0 c
    |some a=>exact run_firstCells_some _ size 0 a 0 c [] (by simp) (by simp)
 cases hu with
 |str s=>
  obtain ⟨h1,h2⟩:=ar (show sel (Nat.beq size 1) (some (s.size,ti s)) none=some q from hs);cases h2;have:=(beq_iff _ _).1 h1;subst this;have hn:n<=s.size:=hn;refine ⟨rfl,(byteCells s).take n,?_,by rw[Nat.mul_one];exact (zw s).take n,by rw[List.length_take,byteCells_length,Nat.mul_one];omega⟩
  simp[Builtin.firstCells,byteCells];apply Array.ext';simp[List.map_take]
 |_=>exact row hs
theorem R8 (hE:bC E g) (h:HR g f w) {new:Nat} {t ty:TypeId} {ts:List TypeId} {d s:SV} {u1 u2:Value} (h1:VR g u1 d) (h2:VR g u2 s) {v:SV} {us:List Up}
  (ho0:jV E f t d s=some (v,us)):∃r w',(Builtin.copy_ (t::ts).toArray ty #[u1,u2]).run E.P w= .ok r w'/\cx g f w v us new r g w':=by
 obtain ⟨i,hi,ho⟩:=af ho0;obtain ⟨e,he,ho⟩:=af ho;obtain ⟨ie,hie,ho⟩:=af (show aj (E.ty.get e) _=some (v,us) from ho);obtain ⟨hok,ho⟩:=ar ho;obtain ⟨nd,q,hnd,hq,ho⟩:=az ho;have ht:=(hE.ty t i hi).desc;rw[jH he] at ht;have ht:E.P.underlying t=some (.slice e):=ht;have hsz:=gu (hE.ty e ie hie);have hmin:sel (Nat.ble q.1 nd) q.1 nd=Nat.min q.1 nd:=by
  rw[aC];split
  ·rename_i hc;exact (Nat.min_eq_left ((bk _ _).1 hc)).symm
  ·rename_i hc;have:¬q.1<=nd:=fun e=>hc ((bk _ _).2 e)
   exact (Nat.min_eq_right (by omega)).symm
 have hle:Nat.min q.1 nd<=q.1:=Nat.min_le_left _ _;have hle2:Nat.min q.1 nd<=nd:=Nat.min_le_right _ _;have ho:n6 d f ie.size (sel (Nat.ble q.1 nd) q.1 nd) q.2=some (v,us):=ho;rw[hmin] at ho;generalize hm:Nat.min q.1 nd=m at ho hle hle2;obtain ⟨hl,news,hc,hx,hnl⟩:=Uv (P:=E.P) h h2 hq hle;have cC:VR g (goInt m) (.int .i64 (.lit (.ofNat m))):=.int _ _ (by simp[SI.ev])
 rcases rp hnd with ⟨id,off,cp,rfl⟩|⟨rfl,rfl⟩|⟨rfl,rfl⟩
 ·cases h1 with
  | @sl _ _ _ b o c' _ hρ hnc dW ov=>
   obtain ⟨p,hp,ho⟩:=af (show aj (jF (f id)) (fun p=>sel (Nat.ble (Nat.add off (Nat.mul m ie.size)) p.2.length) (some (SV.int .i64 (.lit (.ofNat m)),[(id,some (SO.cells p.1 (bF p.2 off (q.2.take (Nat.mul m ie.size)))))])) none)=some (v,us) from ho)
   obtain ⟨wm,ho⟩:=ar ho;cases ho;have wm:off+m*ie.size<=p.2.length:=(bk _ _).1 wm;have hf:=jO hp;have mv:Cells g w id b o p.1 p.2:=(h.at hf hρ).2;obtain ⟨w',s1,s2,s3,s4,s5,s6,s7⟩:=mv.store (P:=E.P) (off:=off) hx (by rw[<-hx.length,hnl];exact wm)
   obtain ⟨t1,t2⟩:=h.write (o':=.cells p.1 (bF p.2 off (q.2.take (m*ie.size)))) hf hρ s3 s4 s2 s5 s6 s7;refine ⟨_,w',?_,⟨cC,t1,t2,fun _ _=>rfl,fun _=>rfl⟩⟩
   simp[Builtin.copy_,run_underlying ht,hl,hsz,hm,hc,s1]
 ·cases h1;have:m=0:=by omega
  subst this;cases (show some (SV.int .i64 (.lit (.ofNat 0)),([]:List Up))=some (v,us) from ho);refine ⟨_,w,?_,cx.same h cC⟩;simp[Builtin.copy_,run_underlying ht,hl,hsz,hm,hc]
 ·cases h1 with
  | @sle ad c=>
   have:m=0:=by omega
   subst this;cases (show some (SV.int .i64 (.lit (.ofNat 0)),([]:List Up))=some (v,us) from ho);have hn0:news= []:=List.eq_nil_of_length_eq_zero (by simpa using hnl)
   subst hn0;refine ⟨_,w,?_,cx.same h cC⟩;cases ad<;>simp[Builtin.copy_,run_underlying ht,hl,hsz,hm,hc,storeCells]
theorem eB.get:∀{ms:List MapEntry} {xs:List (SV×SV×Nat)},eB g ms xs->∀{j:Nat} {x:SV×SV×Nat},xs[j]? =some x->∃m,ms[j]? =some m/\SU g m x
 |_,_,.nil,_,_,h=>by simp at h
 |_,_,.cons hd ht,j,x,h=>by
  cases j with
  |zero=>simp at h;subst h;exact ⟨_,rfl,hd⟩
  |succ j=>simp at h;obtain ⟨m,a,b⟩:=ht.get h;exact ⟨m,by simpa using a,b⟩
theorem eB.length:∀{ms:List MapEntry} {xs:List (SV×SV×Nat)},eB g ms xs->ms.length=xs.length
 |_,_,.nil=>rfl
 |_,_,.cons _ ht=>by simp[ht.length]
theorem eB.append:∀{ms ns:List MapEntry} {xs ys:List (SV×SV×Nat)},eB g ms xs->eB g ns ys->eB g (ms++ns) (xs++ys)
 |_,_,_,_,.nil,k=>k
 |_,_,_,_,.cons hd ht,k=>.cons hd (ht.append k)
theorem eB.set:∀{ms:List MapEntry} {xs:List (SV×SV×Nat)},eB g ms xs->∀{m:MapEntry} {x:SV×SV×Nat},SU g m x->∀(j:Nat),eB g (ms.set j m) (xs.set j x)
 |_,_,.nil,_,_,_,j=>by simpa using .nil
 |_,_,.cons hd ht,_,_,h,0=>by simpa using .cons h ht
 |_,_,.cons hd ht,_,_,h,j+1=>by simpa using .cons hd (ht.set h j)
theorem zk {k : SV} {D : UD} {u : Value} {P : Program} {t : TypeId} (hl : sY k D = true) (hd : qO P t D) (hu : VR g u k) : ∃ d, P.underlying t = some d /\ IsKey d u /\
    (∀ (y : SV) (b : Bool) (u' : Value), sameKey k y = some b -> VR g u' y -> Instr.sameNow d u u' = some b /\ (b = true -> u' = u)) := by
  cases hu with
  | bool a =>
    obtain rfl := KU (show xI D = true from hl)
    refine ⟨.bool, hd, trivial, fun y b u' hs hu' => ?_⟩
    obtain ⟨p, q, h1, h2, h3⟩ := az (show aG (g6 (.bool a)) (g6 y) (fun a b => some (a == b)) = some b from hs)
    cases h1
    obtain rfl := kY h2
    cases hu'
    cases h3
    exact ⟨rfl, fun e => by have : a = q := by simpa using e
                            rw [this]⟩
  | @int k e n he =>
    have hl : (isLit e && Rk k D) = true := hl
    rw [Bool.and_eq_true] at hl
    obtain ⟨hl1, hl2⟩ := hl
    obtain rfl : D = .int k := by
      cases D with
      | int k' => rw [ey hl2]
      | _ => cases hl2
    cases e with
    | lit n0 =>
      subst he
      refine ⟨.int k, hd, rfl, fun y b u' hs hu' => ?_⟩
      obtain ⟨p, h1, h2⟩ := af (show aj (intOf y) (fun p => sel (ct k p.1) (aaB (.lit n) p.2) none) = some b from hs)
      obtain ⟨hk, h3⟩ := ar h2
      have hk := ey hk
      obtain rfl := jt h1
      obtain ⟨pk, pe⟩ := p
      simp only at hk h3 hu'
      subst hk
      cases pe with
      | lit m =>
        cases hu' with
        | @int _ _ m' e2 =>
          subst e2
          cases h3
          rw [mY]
          refine ⟨?_, fun e => ?_⟩
          · simp only [Instr.sameNow, if_true, SI.ev]
            congr 1
          · have : n = m' := by simpa using e
            rw [this]
      | _ => cases h3
    | _ => cases hl1
  | str s =>
    obtain rfl := N8 (show nX D = true from hl)
    refine ⟨.string, hd, trivial, fun y b u' hs hu' => ?_⟩
    obtain ⟨p, q, h1, h2, h3⟩ := az (show aG (strOf (.str s)) (strOf y) (fun a b => some (pT a b)) = some b from hs)
    cases h1
    obtain rfl := fc h2
    cases hu'
    cases h3
    rw [lX]
    refine ⟨?_, fun e => ?_⟩
    · simp only [Instr.sameNow]
      congr 1
      rw [Bool.eq_iff_iff, bytes_beq]
      simp
    · have : s = q := by simpa using e
      rw [this]
  | _ => cases hl
theorem uz {k:SV} {u:Value} {d:TypeDesc} (hk:∀(y:SV) (b:Bool) (u':Value),sameKey k y=some b->VR g u' y->Instr.sameNow d u u'=some b/\(b=true->u'=u)):
  ∀{ms:List MapEntry} {es:List (SV×SV×Nat)},eB g ms es->∀(i:Nat) (r:Option (Nat×SV×Nat)),hX k es i=some r->
   (r=none/\Instr.findNow d u ms i=some none)\/∃j x m,r=some (i+j,x.2.1,x.2.2)/\es[j]? =some x/\ms[j]? =some m/\m.key=u/\Instr.findNow d u ms i=some (some (i+j,m.val))
 |_,_,.nil,i,r,h=>by cases h;exact .inl ⟨rfl,rfl⟩
 |_,_,.cons (m:=m) (x:=x) (ms:=ms) (xs:=es) hd ht,i,r,h=>by
  unfold hX at h;cases hs:sameKey k x.1 with
  |none=>rw[hs] at h;cases h
  |some b=>
   rw[hs] at h;obtain ⟨h1,h2⟩:=hk x.1 b m.key hs hd.1;cases b with
   |true=>
    cases h;exact .inr ⟨0,x,m,rfl,rfl,rfl,h2 rfl,by simp[Instr.findNow,h1]⟩
   |false=>
    rcases uz hk ht (i+1) r h with ⟨q1,q2⟩|⟨j,y,m',q1,q2,q3,q4,q5⟩
    ·exact .inl ⟨q1,by simp[Instr.findNow,h1,q2]⟩
    ·refine .inr ⟨j+1,y,m',by rw[q1];congr 2;omega,by simpa using q2,by simpa using q3,q4,?_⟩
     simp[Instr.findNow,h1,q5];omega
theorem KG (hE:bC E g) (h:HR g f w) {t:TypeId} {x k z:SV} {u1 u2:Value} (h1:VR g u1 x) (h2:VR g u2 k) {ok:Bool} (ho0:jN E f t x k ok=some z):
  ∃r,(Instr.lookup t u1 u2 ok).run E.P w= .ok r w/\VR g r z:=by
 obtain ⟨i,hi,ho⟩:=af ho0;obtain ⟨q,hq,ho⟩:=af ho;obtain ⟨ik,ie,hik,hie,ho⟩:=az ho;obtain ⟨hl,ho⟩:=ar ho;obtain ⟨es,hes,ho⟩:=af ho;obtain ⟨r,hr,ho⟩:=af ho;have ht:=(hE.ty t i hi).desc;rw[vW hq] at ht;have ht:E.P.underlying t=some (.map q.1 q.2):=ht;obtain ⟨d,hd,mu,BK⟩:=zk hl (hE.ty _ ik hik).desc h2;obtain ⟨zv,z1,z2,z3⟩:=zG (hE.ty _ ie hie);have main:∀(ms:Array MapEntry),eB g ms.toList es->(Instr.checkKey ms.isEmpty 10000 q.1 u2).run E.P w= .ok () w/\∃a rv,(Instr.findKey q.1 u2 ms.toList).run E.P w= .ok a w/\VR g rv z/\
   ((a=none/\rv=if ok then Value.tuple #[zv,.bool false] else zv)\/∃j v,a=some (j,v)/\rv=if ok then Value.tuple #[v,.bool true] else v):=by
  intro ms hms;refine ⟨run_checkKey (P:=E.P) (w:=w) hd mu ms.isEmpty 9999,?_⟩;rcases uz BK hms 0 r hr with ⟨rfl,q2⟩|⟨j,y,m,rfl,q2,q3,q4,q5⟩
  ·obtain ⟨zz,hz,ho⟩:=af (show aj (cO ie ie.zero 0) (fun z=>some (okV ok z false))=some z from ho)
   cases ho;refine ⟨none,_,run_findKey (P:=E.P) (w:=w) hd q2,?_,.inl ⟨rfl,rfl⟩⟩;have:=Bf (g:=g) z2 z3 hz;cases ok
   ·exact this
   ·exact .tup (.cons this (.cons (.bool false) .nil))
  ·obtain ⟨m',r1,r2⟩:=hms.get q2;rw[q3] at r1;obtain rfl:m=m':=by simpa using r1
   cases (show some (okV ok y.2.1 true)=some z from ho);refine ⟨_,_,run_findKey (P:=E.P) (w:=w) hd q5,?_,.inr ⟨_,_,rfl,rfl⟩⟩;cases ok
   ·exact r2.2.1
   ·exact .tup (.cons r2.2.1 (.cons (.bool true) .nil))
 cases h1 with
 |cV=>
  cases (show some ([]:List (SV×SV×Nat))=some es from hes);obtain ⟨hck,a,rv,r1,r2,r3⟩:=main #[] .nil;refine ⟨rv,?_,r2⟩;rcases r3 with ⟨rfl,rfl⟩|⟨j,v,rfl,rfl⟩<;>simp only[Instr.lookup,Sem.run_bind,run_underlying ht,Result.andThen_ok,Sem.run_pure,hck,r1,z1]
 | @mp id b o hρ=>
  obtain ⟨p,hp,hes⟩:=af (show aj (jc (f id)) (fun p=>some p.1)=some es from hes)
  cases hes;have hf:=nS hp;obtain ⟨ms,m1,m2⟩:=(h.at hf hρ).2;obtain ⟨hck,a,rv,r1,r2,r3⟩:=main ms m2;refine ⟨rv,?_,r2⟩;rcases r3 with ⟨rfl,rfl⟩|⟨j,v,rfl,rfl⟩<;>simp only[Instr.lookup,Sem.run_bind,run_underlying ht,Result.andThen_ok,Sem.run_pure,MapKept.run_getObj_map m1,hck,r1,z1]
 |_=>cases hes
theorem EL (hE:bC E g) (h:HR g f w) {t:TypeId} {x k v:SV} {u1 u2 u3:Value} (h1:VR g u1 x) (h2:VR g u2 k) (h3:VR g u3 v) {us:List Up} (ho0:lC E f t x k v=some us):
  ∃w',(Instr.mapUpdate t u1 u2 u3).run E.P w= .ok () w'/\HR g (gF f us) w'/\Fr g f w g (gF f us) w':=by
 obtain ⟨id,hid,ho⟩:=af ho0;obtain ⟨i,hi,ho⟩:=af ho;obtain ⟨q,hq,ho⟩:=af ho;obtain ⟨ik,p,hik,hp,ho⟩:=az ho;obtain ⟨hl,ho⟩:=ar ho;obtain ⟨r,hr,ho⟩:=af ho;cases ho;obtain rfl:=E2 hid;have ht:=(hE.ty t i hi).desc;rw[vW hq] at ht;have ht:E.P.underlying t=some (.map q.1 q.2):=ht;obtain ⟨d,hd,mu,BK⟩:=zk hl (hE.ty _ ik hik).desc h2;have hf:=nS hp;cases h1 with
 | @mp _ b o hρ=>
  obtain ⟨hb,ms,m1,m2⟩:=h.at hf hρ;have hck:=run_checkKey (P:=E.P) (w:=w) hd mu false 9999;have fin:∀(ms':Array MapEntry) (es':List (SV×SV×Nat)) (c':Nat),eB g ms'.toList es'->HR g (upF f (id,some (.map es' c'))) {w with heap:=w.heap.setIfInBounds b (.map ms' c')}/\Fr g f w g (upF f (id,some (.map es' c'))) {w with heap:=w.heap.setIfInBounds b (.map ms' c')}:=by
   intro ms' es' c' he;obtain ⟨s1,s2⟩:=heap_set (o':=Obj.map ms' c') m1;exact h.write hf hρ (by simp) (fun k hk=>s2 k hk) ⟨ms',s1,he⟩ rfl rfl rfl
  rcases uz BK m2 0 r hr with ⟨rfl,q2⟩|⟨j,y,m,rfl,q2,q3,q4,q5⟩
  ·have hfk:=run_findKey (P:=E.P) (w:=w) hd q2;refine ⟨_,?_,fin (ms.push {key:=u2,val:=u3,born:=p.2}) (p.1++ [(k,v,p.2)]) (p.2+1) (by rw[Array.toList_push];exact m2.append (.cons ⟨h2,h3,rfl⟩ .nil))⟩
   simp only[Instr.mapUpdate,Sem.run_bind,run_underlying ht,Result.andThen_ok,MapKept.run_getObj_map m1,hck,hfk];exact run_setObj_map _ m1
  ·have hfk:=run_findKey (P:=E.P) (w:=w) hd q5;obtain ⟨m',r1,r2⟩:=m2.get q2;rw[q3] at r1;obtain rfl:m=m':=by simpa using r1
   rw[Nat.zero_add] at hfk;have hmj:ms[j]? =some m:=by simpa using q3
   have hold:(((ms[j]?).map (·.key)).getD u2)=u2:=by rw[hmj];simpa using q4
   have hks:(Instr.keyThatStays u2 u2).run E.P w= .ok u2 w:=by simp[Instr.keyThatStays,sameBits_self mu]
   refine ⟨_,?_,fin (ms.modify j fun e=>{e with key:=u2,val:=u3}) (p.1.set (0+j) (k,v,y.2.2)) p.2 ?_⟩
   ·simp only[Instr.mapUpdate,Sem.run_bind,run_underlying ht,Result.andThen_ok,MapKept.run_getObj_map m1,hck,hfk,hold,hks];exact run_setObj_map _ m1
   ·have:(ms.modify j fun e=>{e with key:=u2,val:=u3}).toList=ms.toList.set j {m with key:=u2,val:=u3}:=by
     apply List.ext_getElem?;intro n;rw[Array.getElem?_toList,Array.getElem?_modify,List.getElem?_set];by_cases hn:j=n
     ·subst hn;have hlt:j<ms.size:=(Array.getElem?_eq_some_iff.1 hmj).1;have uq:ms[j]=m:=(Array.getElem?_eq_some_iff.1 hmj).2;simp[hlt,uq]
     ·simp[hn]
    rw[this,Nat.zero_add];exact m2.set (m:={m with key:=u2,val:=u3}) (x:=(k,v,y.2.2)) ⟨h2,h3,r2.2.2⟩ j
end
section
variable {E:Env} {g:Gh} {f:Hf} {w:World}
theorem Kn (hE:bC E g) (h:HR g f w) {new:Nat} (hn:g.ρ new=none) {t:TypeId} {x:SV} {u:Value} (hu:VR g u x) {v:SV} {us:List Up} (ho0:l6 E f new t x=some (v,us)):
  ∃r w' g',(Instr.range t u).run E.P w= .ok r w'/\cx g f w v us new r g' w':=by
 obtain ⟨i,hi,ho⟩:=af ho0;obtain ⟨o,ho1,ho⟩:=af ho;cases ho;have ht:=(hE.ty t i hi).desc;have fin:∀(ob:Obj),(Instr.range t u).run E.P w= .ok (.pointer (some ⟨w.heap.size,0,none⟩)) (w.alloc ob)->OR (g.bind new (w.heap.size,0) 0 0) (w.alloc ob) new w.heap.size 0 o->
   ∃r w' g',(Instr.range t u).run E.P w= .ok r w'/\cx g f w (.ptr new 0) [(new,some o)] new r g' w':=by
  intro ob fj hor;obtain ⟨r1,r2⟩:=h.alloc hn (o':=o) (w':=w.alloc ob) (l:=0) (e:=0) rfl hor;exact ⟨.pointer (some ⟨w.heap.size,0,none⟩),_,_,fj,⟨.ptr (o:=0) (off:=0) (Gh.da _ _ _ _ _),r1,r2,fun id hne=>Gh.dQ _ _ _ _ hne,fun qw=>by cases qw⟩⟩
 generalize i.desc=D at ht ho1;cases D with
 |string=>
  have ht:E.P.underlying t=some .string:=ht;obtain ⟨s,hs,ho1⟩:=af (show aj (strOf x) (fun s=>some (SO.ia s 0))=some o from ho1)
  cases ho1;obtain rfl:=fc hs;cases hu;refine fin (.stringIter s 0) ?_ ⟨rfl,heap_alloc_new w _⟩;simp[Instr.range,run_underlying ht,newObj];rfl
 |map kt et=>
  have ht:E.P.underlying t=some (.map kt et):=ht;cases hu with
  |cV=>
   cases (show some (SO.mapIter none 0 [] 0)=some o from ho1);refine fin (.mapIter none 0 #[] 0) ?_ ⟨rfl,none,#[],heap_alloc_new w _,rfl,rfl⟩;simp[Instr.range,run_underlying ht,newObj];rfl
  | @mp id b c hρ=>
   obtain ⟨p,hp,ho1⟩:=af (show aj (jc (f id)) (fun p=>some (SO.mapIter (some id) p.2 [] p.2))=some o from ho1)
   cases ho1;have hf:=nS hp;obtain ⟨hb,ms,m1,m2⟩:=h.at hf hρ;have hne:id≠new:=fun e=>by subst e;rw[hn] at hρ;cases hρ
   refine fin (.mapIter (some b) p.2 #[] p.2) ?_ ⟨rfl,some b,#[],heap_alloc_new w _,rfl,b,c,rfl,by rw[Gh.dQ _ _ _ _ hne];exact hρ⟩
   simp[Instr.range,run_underlying ht,newObj,MapKept.run_getObj_map m1];rfl
  |_=>cases ho1
 |_=>cases ho1
theorem NR (hE:bC E g) (h:HR g f w) {new:Nat} {isS:Bool} {ty:TypeId} {x:SV} {u:Value} (hu:VR g u x) {v:SV} {us:List Up} (ho0:mh f isS x=some (v,us)):
  ∃r w',(Instr.next u isS ty).run E.P w= .ok r w'/\cx g f w v us new r g w':=by
 obtain ⟨hs,ho1⟩:=ar ho0;subst hs;obtain ⟨id,hid,ho2⟩:=af ho1;obtain ⟨p,hp,ho3⟩:=af ho2;obtain ⟨q,hq,hid2⟩:=af hid;obtain ⟨hz,hid3⟩:=ar hid2;cases hid3;have hz:=(beq_iff _ _).1 hz;obtain rfl:=iB hq;have hf:=By hp;cases hu with
 | @ptr _ _ b o hρ=>
  obtain ⟨hb,rfl,m1⟩:=h.at hf hρ;rw[hz];have uq:(getObj b).run E.P w= .ok (.stringIter p.1 p.2) w:=by simp[getObj,Sem.run,m1]
  have ho:some (ic q.1 p)=some (v,us):=ho3;unfold ic at ho;rw[aC] at ho;split at ho
  ·rename_i hlt;have hlt:p.2<p.1.size:=(bk _ _).1 hlt;cases ho;obtain ⟨s1,s2⟩:=heap_set (o':=Obj.stringIter p.1 (p.2+(Utf8.decode p.1 p.2).2)) m1;obtain ⟨t1,t2⟩:=h.write (o':=.ia p.1 (p.2+(Utf8.decode p.1 p.2).2)) (w':={w with heap:=w.heap.setIfInBounds b (.stringIter p.1 (p.2+(Utf8.decode p.1 p.2).2))}) hf hρ (by simp) (fun k hk=>s2 k hk) ⟨rfl,s1⟩ rfl rfl rfl
   refine ⟨.tuple #[.bool true,goInt p.2,.int .i32 (Utf8.decode p.1 p.2).1],{w with heap:=w.heap.setIfInBounds b (.stringIter p.1 (p.2+(Utf8.decode p.1 p.2).2))},?_,⟨?_,t1,t2,fun _ _=>rfl,fun _=>rfl⟩⟩
   ·simp only[Nat.add_zero,Instr.next,Sem.run_bind,uq,Result.andThen_ok,if_pos hlt];simp[setObj,Sem.run,m1]
   ·exact .tup (.cons (.bool true) (.cons (.int _ _ (by simp[SI.ev])) (.cons (.int _ _ (by simp[SI.ev])) .nil)))
  ·rename_i hlt;have hlt:¬p.2<p.1.size:=fun e=>hlt ((bk _ _).2 e)
   cases ho;refine ⟨.tuple #[.bool false],w,?_,cx.same h (.tup (.cons (.bool false) .nil))⟩;simp only[Nat.add_zero,Instr.next,Sem.run_bind,uq,Result.andThen_ok,if_neg hlt,Sem.run_pure]
theorem QF (hE:bC E g) (h:HR g f w) {new:Nat} {t:TypeId} {x:SV} {u:Value} (hu:VR g u x) {v:SV} {us:List Up} (ho0:Bg E t x=some (v,us)):
  ∃r,(Instr.makeInterface t u).run E.P w= .ok r w/\cx g f w v us new r g w:=by
 obtain ⟨i,hi,ho⟩:=af ho0;rw[aC] at ho;split at ho
 ·cases ho
 ·rename_i hc;cases ho;have hd:=(hE.ty t i hi).desc;refine ⟨.iface t u,?_,cx.same h (.ifc hu)⟩;generalize i.desc=D at hd hc;cases D<;>simp only[qO] at hd
  case interface=>exact absurd rfl hc
  case pointer=>obtain ⟨e,he⟩:=hd;simp[Instr.makeInterface,run_underlying he]
  case struct=>obtain ⟨e,he,_⟩:=hd;simp[Instr.makeInterface,run_underlying he]
  case func=>obtain ⟨_,_,_,he⟩:=hd;simp[Instr.makeInterface,run_underlying he]
  all_goals simp[Instr.makeInterface,run_underlying hd]
theorem FI (hE:bC E g) (h:HR g f w) {new:Nat} {t xt:TypeId} {ok:Bool} {x:SV} {u:Value} (hu:VR g u x) {v:SV} {us:List Up} (ho0:qh E t ok x=some (v,us)):
  ∃r,(Instr.typeAssert u xt t ok).run E.P w= .ok r w/\cx g f w v us new r g w:=by
 obtain ⟨i,hi,ho⟩:=af ho0;rw[aC] at ho;split at ho
 ·cases ho
 ·rename_i hc;obtain ⟨z,hz0,ho⟩:=af ho;cases ho;have hT:=hE.ty t i hi;obtain ⟨zv,z1,z2,z3⟩:=zG hT;obtain ⟨d,hd⟩:=TT hT;have hni:∀ms,d≠ .interface ms:=by
   intro ms e;subst e;have hD:=hT.desc;generalize i.desc=D at hD hc;cases D<;>simp only[qO] at hD<;>first|exact hc rfl|(rw[hd] at hD;simp at hD;done)|(obtain ⟨_,he⟩:=hD;rw[hd] at he;simp at he;done)|(obtain ⟨_,he,_⟩:=hD;rw[hd] at he;simp at he;done)|(obtain ⟨_,_,_,he⟩:=hD;rw[hd] at he;simp at he;done)
  have fail:uB i ok=some v->∃r,(do if ok then pure (Value.tuple #[<-zeroValue t,.bool false]) else runtimePanic (.typeAssertion (some xt) none t ""):Sem Value).run E.P w= .ok r w/\ok=true/\r= .tuple #[zv,.bool false]/\VR g r v:=by
   intro hf;obtain ⟨hk,hf⟩:=ar hf;obtain ⟨y,hy,hf⟩:=af hf;cases hf;subst hk;exact ⟨_,by simp[z1],rfl,rfl,.tup (.cons (Bf z2 z3 hy) (.cons (.bool false) .nil))⟩
  cases hu with
  | @ifc t2 u2 y hy=>
   have hz:sel (Nat.beq t2 t) (some (okV ok y true)) (uB i ok)=some v:=hz0;rw[aC] at hz;split at hz
   ·rename_i he;have he:=(beq_iff _ _).1 he;subst he;have hz:some (okV ok y true)=some v:=hz;cases hz;refine ⟨if ok then .tuple #[u2,.bool true] else u2,?_,cx.same h ?_⟩
    ·cases d<;>first|exact absurd rfl (hni _)|simp[Instr.typeAssert,run_underlying hd]
    ·cases ok
     ·exact hy
     ·exact .tup (.cons hy (.cons (.bool true) .nil))
   ·rename_i he;have he:t2≠t:=fun e=>he ((beq_iff _ _).2 e)
    obtain ⟨r,r1,rfl,rfl,r2⟩:=fail hz;refine ⟨_,?_,cx.same h r2⟩;cases d<;>first|exact absurd rfl (hni _)|simp[Instr.typeAssert,run_underlying hd,he,z1]
  |cW=>
   obtain ⟨r,r1,rfl,rfl,r2⟩:=fail hz0;refine ⟨_,?_,cx.same h r2⟩;cases d<;>first|exact absurd rfl (hni _)|simp[Instr.typeAssert,run_underlying hd,z1]
  |_=>cases hz0
theorem WA (hE:bC E g) (h:HR g f w) {t ty:TypeId} {i:TI} (hi:E.ty.get t=some i) {x z:SV} {u:Value} (hu:VR g u x) (ho0:mX i.desc x f=some z):∃r,(Builtin.len_ #[t] ty #[u]).run E.P w= .ok r w/\VR g r z:=by
 have hd:=(hE.ty t i hi).desc;have lit:∀n:Nat,VR g (goInt n) (kJ n):=fun n=>.int _ _ (by simp[SI.ev])
 generalize i.desc=D at hd ho0;cases D with
 |string=>
  obtain ⟨s,hs,ho⟩:=af (show aj (strOf x) (fun s=>some (kJ s.size))=some z from ho0)
  cases ho;obtain rfl:=fc hs;cases hu;exact ⟨goInt s.size,by simp[Builtin.len_,run_underlying (show E.P.underlying t=some .string from hd)],lit _⟩
 |slice e=>
  obtain ⟨n,hn,ho⟩:=af (show aj (oq x) (fun n=>some (kJ n))=some z from ho0)
  cases ho;have hd:E.P.underlying t=some (.slice e):=hd;rcases rp hn with ⟨id,off,c,rfl⟩|⟨rfl,rfl⟩|⟨rfl,rfl⟩<;>cases hu<;>exact ⟨goInt _,by simp[Builtin.len_,run_underlying hd],lit _⟩
 |array n e=>
  cases (show some (kJ n)=some z from ho0);have hd:E.P.underlying t=some (.array n e):=hd;exact ⟨goInt n,by simp[Builtin.len_,run_underlying hd],lit _⟩
 |map k e=>
  have hd:E.P.underlying t=some (.map k e):=hd;cases hu with
  |cV=>
   cases (show some (kJ 0)=some z from ho0);exact ⟨goInt 0,by simp[Builtin.len_,run_underlying hd],lit _⟩
  | @mp id b o hρ=>
   obtain ⟨p,hp,ho⟩:=af (show aj (jc (f id)) (fun p=>some (kJ p.1.length))=some z from ho0)
   cases ho;obtain ⟨hb,ms,m1,m2⟩:=h.at (nS hp) hρ;refine ⟨goInt ms.size,by simp[Builtin.len_,run_underlying hd,MapKept.run_getObj_map m1],?_⟩
   have:=m2.length;rw[<-this];exact lit _
  |_=>cases ho0
 |_=>cases ho0
theorem E3 (hE:bC E g) {x y z:SV} {u v:Value} (hu:VR g u x) (hv:VR g v y) {mx:Bool} (ho0:zT E mx x y=some z) (ts:Array TypeId) (ty:TypeId):
  ∃r,((if mx then Builtin.max_ ts ty #[u,v] else Builtin.min_ ts ty #[u,v])).run E.P w= .ok r w/\VR g r z:=by
 obtain ⟨a,b,h1,h2,ho⟩:=az ho0;obtain ⟨r,hr,ho⟩:=af ho;cases ho;obtain rfl:=jt h1;obtain rfl:=jt h2;cases hu with|int _ _ e1=>cases hv with|int _ _ e2=>
 subst e1;subst e2;cases mx with
 |true=>
  have:=mW hE (show ltI E a.2 b.2=some r from hr);refine ⟨.int a.1 (if b.2.ev g.η>a.2.ev g.η then b.2.ev g.η else a.2.ev g.η),by simp[Builtin.max_,Builtin.max2],.int _ _ ?_⟩
  cases r with
  |true=>rw[if_pos (by simpa using this)]
  |false=>rw[if_neg (by simpa using this)]
 |false=>
  have:=mW hE (show ltI E b.2 a.2=some r from hr);refine ⟨.int a.1 (if b.2.ev g.η<a.2.ev g.η then b.2.ev g.η else a.2.ev g.η),by simp[Builtin.min_,Builtin.min2],.int _ _ ?_⟩
  cases r with
  |true=>rw[if_pos (by simpa using this)]
  |false=>rw[if_neg (by simpa using this)]
theorem kg {α:Type} {l:List α} {p:α×α} (h:jf l=some p):l= [p.1,p.2]:=by
 unfold jf at h;split at h
 ·cases h;rfl
 ·cases h
def ahw (P:Program) (o:Oper) (a:Act) (w:World) (v:Value) (w':World):Prop:=
 (execOp a.eval o).run P w= .ok (.value v) w'\/((execOp a.eval o).run P w= .ok .skip w'/\v=undef)
theorem vV {u:Value} {k:IntKind} {n:Nat} (h:VR g u (.int k (.lit (.ofNat n)))):u= .int k (.ofNat n):=by
 cases h with
 |int _ _ e=>rw[e];rfl
theorem uR {α:Type} {xs:Array α} {l:List α} (h:xs.toList=l):xs=l.toArray:=by apply Array.ext';simpa using h
theorem sy {us:List Value} {x y:SV} (h:VRs g us [x,y]):∃u v,us= [u,v]/\VR g u x/\VR g v y:=by
 cases h with
 |cons h1 h=>cases h with
  |cons h2 h=>cases h;exact ⟨_,_,rfl,h1,h2⟩
theorem aea {us:List Value} {x:SV} (h:VRs g us [x]):∃u,us= [u]/\VR g u x:=by
 cases h with
 |cons h1 h=>cases h;exact ⟨_,rfl,h1⟩
theorem DC (hE:bC E g) (h:HR g f w) {nt:Nat} {tm:Tf} {a:Act} (hfr:FR g nt tm a.tmps) {new:Nat} (hn:g.ρ new=none) {b:Builtin} {args:Array Operand} {ts:Array TypeId} {aa:List SV} (has:bT tm args.toList=some aa) (ty:TypeId) (cs:Array Bool) {v:SV} {us:List Up}
  (ho0:fX E f new b aa ts.toList=some (v,us)):∃r w' g',(builtin b ts ty cs (args.map a.eval)).run E.P w= .ok (.value r) w'/\cx g f w v us new r g' w':=by
 have hvs:=nM hfr has;have jT:args.map a.eval=(args.toList.map a.eval).toArray:=uR (by simp)
 rw[jT];generalize args.toList.map a.eval=vs at hvs;cases b with
 |len=>
  obtain ⟨x,t,h1,h2,ho⟩:=az (show aG aa.head? ts.toList.head? (fun x t=>sel (Nat.beq aa.length 1) (aj (E.ty.get t) fun i=>same (mX i.desc x f)) none)=some (v,us) from ho0)
  obtain ⟨hl,ho⟩:=ar ho;obtain ⟨i,hi,ho⟩:=af ho;obtain ⟨z,hz,ho⟩:=af ho;cases ho;have hl:=(beq_iff _ _).1 hl;obtain rfl:aa= [x]:=by
   cases aa with
   |nil=>simp at hl
   |cons y l=>simp at hl h1;simp[hl,h1]
  obtain ⟨u,rfl,hu⟩:=aea hvs;obtain ⟨r,r1,r2⟩:=WA (w:=w) (ty:=ty) hE h hi hu hz;refine ⟨r,w,g,?_,cx.same h r2⟩;have ht:ts[0]? =some t:=by
   rw[<-Array.getElem?_toList];cases hts:ts.toList with
   |nil=>rw[hts] at h2;simp at h2
   |cons t' l=>rw[hts] at h2;simpa using h2
  have hl1:(Builtin.len_ ts ty #[u]).run E.P w=(Builtin.len_ #[t] ty #[u]).run E.P w:=by simp only[Builtin.len_,ht];rfl
  simp only[builtin,Sem.run_bind];rw[hl1,r1];rfl
 |append=>
  obtain ⟨p,q,h1,h2,ho⟩:=az (show aG (jf aa) (jf ts.toList) (fun p q=>aj (E.ty.get q.2) fun i=>sel (oo i.desc) (gp E f new q.1 p.1 p.2) none)=some (v,us) from ho0)
  obtain ⟨i,hi,ho⟩:=af ho;obtain ⟨hr,ho⟩:=ar ho;obtain rfl:=kg h1;obtain rfl:=uR (kg h2);obtain ⟨u1,u2,rfl,k1,k2⟩:=sy hvs;obtain ⟨r,w',g',r1,r2⟩:=Mh (ty:=ty) hE h hn k1 k2 hi hr ho;exact ⟨r,w',g',by simp only[builtin,Sem.run_bind];rw[r1];rfl,r2⟩
 |copy=>
  obtain ⟨p,t,h1,h2,ho⟩:=az (show aG (jf aa) ts.toList.head? (fun p t=>jV E f t p.1 p.2)=some (v,us) from ho0)
  obtain rfl:=kg h1;obtain ⟨u1,u2,rfl,k1,k2⟩:=sy hvs;cases hts:ts.toList with
  |nil=>rw[hts] at h2;simp at h2
  |cons t' l=>
   rw[hts] at h2;obtain rfl:t'=t:=by simpa using h2
   obtain rfl:=uR hts;obtain ⟨r,w',r1,r2⟩:=R8 (new:=new) (ty:=ty) (ts:=l) hE h k1 k2 ho;exact ⟨r,w',g,by simp only[builtin,Sem.run_bind];rw[r1];rfl,r2⟩
 |min=>
  obtain ⟨p,h1,ho⟩:=af (show aj (jf aa) (fun p=>same (zT E false p.1 p.2))=some (v,us) from ho0)
  obtain ⟨z,hz,ho⟩:=af ho;cases ho;obtain rfl:=kg h1;obtain ⟨u1,u2,rfl,k1,k2⟩:=sy hvs;obtain ⟨r,r1,r2⟩:=E3 (w:=w) hE k1 k2 hz ts ty;refine ⟨r,w,g,?_,cx.same h r2⟩;simp only[Bool.false_eq_true,if_false] at r1;simp only[builtin,Sem.run_bind];rw[r1];rfl
 |max=>
  obtain ⟨p,h1,ho⟩:=af (show aj (jf aa) (fun p=>same (zT E true p.1 p.2))=some (v,us) from ho0)
  obtain ⟨z,hz,ho⟩:=af ho;cases ho;obtain rfl:=kg h1;obtain ⟨u1,u2,rfl,k1,k2⟩:=sy hvs;obtain ⟨r,r1,r2⟩:=E3 (w:=w) hE k1 k2 hz ts ty;refine ⟨r,w,g,?_,cx.same h r2⟩;simp only[if_true] at r1;simp only[builtin,Sem.run_bind];rw[r1];rfl
 |_=>cases ho0
end
end Go.Sim
namespace Go.Sim
open Go.RowKit
section
variable {E:Env} {g:Gh} {f:Hf} {w:World}
theorem YB (hE:bC E g) (h:HR g f w) {nt:Nat} {tm:Tf} {a:Act} (hfr:FR g nt tm a.tmps) {new:Nat} (hn:g.ρ new=none) {o:Oper} {v:SV} {us:List Up} (ho0:opA E o.op tm f new=some (v,us)):
  ∃r w' g',ahw E.P o a w r w'/\cx g f w v us new r g' w':=by
 obtain ⟨dst,op,ty,pos,after,guard⟩:=o;have val:=fun {x:Operand} {y:SV} (hx:aM tm x=some y)=>jX (g:=g) hfr hx
 cases op with
 |move x=>
  obtain ⟨y,hy,ho⟩:=af (show aj (aM tm x) (fun v=>some (v,([]:List Up)))=some (v,us) from ho0)
  cases ho;exact ⟨_,w,g,.inl rfl,cx.same h (val hy)⟩
 |assign x=>
  obtain ⟨y,hy,ho⟩:=af (show aj (aM tm x) (fun v=>some (v,([]:List Up)))=some (v,us) from ho0)
  cases ho;exact ⟨_,w,g,.inl rfl,cx.same h (val hy)⟩
 |pick c x y=>
  obtain ⟨cv,hc,ho⟩:=af (show aj (aM tm c) (fun v=>aj (g6 v) fun b=>one tm (sel b x y) fun v=>some (v,([]:List Up)))=some (v,us) from ho0)
  obtain ⟨b,hb,ho⟩:=af ho;obtain ⟨z,hz,ho⟩:=af ho;cases ho;obtain rfl:=kY hb;have hcv:a.eval c= .bool b:=by have:=val hc;generalize a.eval c=q at this;cases this;rfl
  refine ⟨if b then a.eval x else a.eval y,w,g,.inl ?_,cx.same h ?_⟩
  ·simp only[execOp,hcv,asBool,Sem.run_bind,Sem.run_pure,Result.andThen_ok]
  ·cases b
   ·exact val hz
   ·exact val hz
 |alloc e=>
  obtain ⟨i,hi,ho⟩:=af (show aj (E.ty.get e) (fun i=>some (SV.ptr new 0,[(new,some (SO.cells e i.zero))]))=some (v,us) from ho0)
  cases ho;obtain ⟨z,z1,z2⟩:=PZ (hE.ty e i hi);refine ⟨.pointer (some ⟨w.heap.size,0,none⟩),_,_,.inl ?_,h.row hn (w0:=w) (w':=w.alloc (.cells z.cells e)) (l:=0) ⟨rfl,rfl,rfl,rfl⟩ rfl (z2 g) (fun j v hv=>by simpa using hv) (Nat.zero_le _) (.ptr (o:=0) (off:=0) (Gh.da _ _ _ _ _))⟩
  simp[execOp,Instr.alloc,z1,newVar,newRow]
 |box e x=>
  obtain ⟨y,hy,ho⟩:=af (show aj (aM tm x) (xC new e)=some (v,us) from ho0);obtain ⟨cs,hc,ho⟩:=af ho;cases ho;refine ⟨.pointer (some ⟨w.heap.size,0,none⟩),_,_,.inl ?_,h.row hn (w0:=w) (w':=w.alloc (.cells (a.eval x).cells e)) (l:=0) ⟨rfl,rfl,rfl,rfl⟩ rfl ((val hy).cL hc) (fun j v hv=>by simpa using hv) (Nat.zero_le _) (.ptr (o:=0) (off:=0) (Gh.da _ _ _ _ _))⟩
  simp[execOp,Instr.box,newVar,newRow]
 |build t parts=>
  obtain ⟨pcs,hpc,ho⟩:=af (show aj (ea tm parts.toList) (fun pcs=>same (oa E t pcs))=some (v,us) from ho0)
  obtain ⟨x,hx,ho⟩:=af ho;cases ho;obtain ⟨hl,hpt⟩:=rZ hfr parts.toList pcs hpc;obtain ⟨r,r1,r2⟩:=Oh hE (parts:=parts.map fun (i,x)=>(i,a.eval x)) hx (by simpa using hl) (fun j i v i' xs h1 h2=>hpt j i v i' xs (by simpa using h1) h2) w
  exact ⟨r,w,g,.inl (by simp only[execOp,Sem.run_bind,r1,Result.andThen_ok,Sem.run_pure]),cx.same h r2⟩
 |buildSlice t len parts=>
  obtain ⟨pcs,hpc,ho⟩:=af (show aj (ea tm parts.toList) (fun pcs=>gQ E new t len pcs)=some (v,us) from ho0)
  obtain ⟨r,w',g',r1,r2⟩:=zb hE h hn hfr hpc ho;exact ⟨r,w',g',.inl (by simp only[execOp,Sem.run_bind,r1,Result.andThen_ok,Sem.run_pure]),r2⟩
 |insert t m k x=>
  obtain ⟨y1,y2,h1,h2,ho⟩:=az (show aG (aM tm m) (aM tm k) (fun a b=>one tm x fun c=>unit (lC E f t a b c))=some (v,us) from ho0)
  obtain ⟨y3,h3,ho⟩:=af ho;obtain ⟨us',hu,ho⟩:=af ho;cases ho;obtain ⟨w',r1,r2,r3⟩:=EL hE h (val h1) (val h2) (val h3) hu;exact ⟨undef,w',g,.inr ⟨by simp only[execOp,Sem.run_bind,r1,Result.andThen_ok,Sem.run_pure],rfl⟩,⟨.tup .nil,r2,r3,fun _ _=>rfl,fun _=>rfl⟩⟩
 |mapUpdate t m k x=>
  obtain ⟨y1,y2,h1,h2,ho⟩:=az (show aG (aM tm m) (aM tm k) (fun a b=>one tm x fun c=>unit (lC E f t a b c))=some (v,us) from ho0)
  obtain ⟨y3,h3,ho⟩:=af ho;obtain ⟨us',hu,ho⟩:=af ho;cases ho;obtain ⟨w',r1,r2,r3⟩:=EL hE h (val h1) (val h2) (val h3) hu;exact ⟨undef,w',g,.inr ⟨by simp only[execOp,Sem.run_bind,r1,Result.andThen_ok,Sem.run_pure],rfl⟩,⟨.tup .nil,r2,r3,fun _ _=>rfl,fun _=>rfl⟩⟩
 |load t x=>
  obtain ⟨y,hy,ho⟩:=af (show aj (aM tm x) (fun v=>same (g8 E f t v))=some (v,us) from ho0)
  obtain ⟨z,hz,ho⟩:=af ho;cases ho;obtain ⟨r,r1,r2⟩:=Bq hE h (val hy) hz;exact ⟨r,w,g,.inl (by simp only[execOp,Sem.run_bind,r1,Result.andThen_ok,Sem.run_pure]),cx.same h r2⟩
 |store t x y=>
  obtain ⟨y1,y2,h1,h2,ho⟩:=az (show aG (aM tm x) (aM tm y) (fun a v=>unit (ir E f t v a))=some (v,us) from ho0)
  obtain ⟨us',hu,ho⟩:=af ho;cases ho;obtain ⟨w',r1,r2,r3⟩:=NK hE h (val h1) (val h2) hu;exact ⟨undef,w',g,.inr ⟨by simp only[execOp,Sem.run_bind,r1,Result.andThen_ok,Sem.run_pure],rfl⟩,⟨.tup .nil,r2,r3,fun _ _=>rfl,fun _=>rfl⟩⟩
 |nilCheck x=>
  obtain ⟨y,hy,ho⟩:=af (show aj (aM tm x) (fun v=>same (Bj v))=some (v,us) from ho0)
  obtain ⟨z,hz,ho⟩:=af ho;cases ho;obtain ⟨rfl,hk⟩:=QQ hz;have hv:=val hy;refine ⟨a.eval x,w,g,.inl ?_,cx.same h hv⟩;rcases hk with ⟨i,o,rfl⟩|⟨fn,c1,c2,rfl⟩|⟨l,rfl⟩<;>(generalize hq:a.eval x=q at hv;cases hv;simp only[execOp,hq,Sem.run_pure])
 |binOp op t x y yt=>
  obtain ⟨y1,y2,h1,h2,ho⟩:=az (show aG (aM tm x) (aM tm y) (fun v u=>same (sq E op t x y v u))=some (v,us) from ho0)
  obtain ⟨z,hz,ho⟩:=af ho;cases ho;obtain ⟨r,r1,r2⟩:=Xq hE hz (val h1) (val h2) w;exact ⟨r,w,g,.inl (by simp only[execOp,Sem.run_bind] at r1 ⊢;rw[r1];rfl),cx.same h r2⟩
 |unOp op t x=>
  obtain ⟨y,hy,ho⟩:=af (show aj (aM tm x) (fun v=>same (unA op v))=some (v,us) from ho0)
  obtain ⟨z,hz,ho⟩:=af ho;cases ho;obtain ⟨r,r1,r2⟩:=X9 hz (val hy) (P:=E.P) w;exact ⟨r,w,g,.inl (by simp only[execOp,Sem.run_bind,r1,Result.andThen_ok,Sem.run_pure]),cx.same h r2⟩
 |convert s d x=>
  obtain ⟨y,hy,ho⟩:=af (show aj (aM tm x) (fun v=>same (B1 E s d v))=some (v,us) from ho0)
  obtain ⟨z,hz,ho⟩:=af ho;cases ho;obtain ⟨r,r1,r2⟩:=Sa hE hz (val hy) w;exact ⟨r,w,g,.inl (by simp only[execOp,Sem.run_bind,r1,Result.andThen_ok,Sem.run_pure]),cx.same h r2⟩
 |makeInterface t x=>
  obtain ⟨y,hy,ho⟩:=af (show aj (aM tm x) (Bg E t)=some (v,us) from ho0);obtain ⟨r,r1,r2⟩:=QF (new:=new) hE h (val hy) ho;exact ⟨r,w,g,.inl (by simp only[execOp,Sem.run_bind,r1,Result.andThen_ok,Sem.run_pure]),r2⟩
 |makeFunc fn first dE=>
  obtain ⟨hok,ho⟩:=ar (show sel (DH fn) (aG (bT tm first.toList) (bT tm dE.toList) fun l m=>some (SV.fn fn l m,([]:List Up))) none=some (v,us) from ho0)
  obtain ⟨l,m,h1,h2,ho⟩:=az ho;cases ho;cases fn with
  |func k=>
   refine ⟨.func (.func k) (first.map a.eval) (dE.map a.eval),w,g,.inl ?_,cx.same h (.fn ?_ ?_)⟩
   ·simp[execOp,Instr.makeFunc]
   ·simpa using nM hfr h1
   ·simpa using nM hfr h2
  |_=>cases hok
 |makeMap t r=>
  have mk:∀(hv:v= .mp new) (hu:us= [(new,some (.map [] 0))]),∃g',cx g f w v us new (.map (some w.heap.size)) g' (w.alloc (.map #[] 0)):=by
   rintro rfl rfl;obtain ⟨r1,r2⟩:=h.alloc hn (o':=.map [] 0) (w':=w.alloc (.map #[] 0)) (l:=0) (e:=0) rfl ⟨#[],heap_alloc_new w _,.nil⟩;exact ⟨_,.mp (o:=0) (Gh.da _ _ _ _ _),r1,r2,fun id hne=>Gh.dQ _ _ _ _ hne,fun qw=>by cases qw⟩
  cases r with
  |none=>
   cases (show some (SV.mp new,[(new,some (SO.map [] 0))])=some (v,us) from ho0);obtain ⟨g',q⟩:=mk rfl rfl;refine ⟨_,_,g',.inl ?_,q⟩;simp[execOp,Instr.makeMap,newObj];rfl
  |some x=>
   obtain ⟨i,y,hi,hy,ho⟩:=az (show aG (E.ty.get t) (aM tm x) (fun i v=>aG (ql i.desc) (eW v) fun _ _=>Bl new)=some (v,us) from ho0)
   obtain ⟨q,n,hq,wi,ho⟩:=az ho;cases ho;obtain ⟨g',p⟩:=mk rfl rfl;obtain ⟨k,rfl⟩:=kz wi;have hx:=vV (val hy);have ht:=(hE.ty t i hi).desc;rw[vW hq] at ht;have ht:E.P.underlying t=some (.map q.1 q.2):=ht;refine ⟨_,_,g',.inl ?_,p⟩;simp[execOp,Instr.makeMap,newObj,run_underlying ht,hx,asInt];rfl
 |makeSlice t l c=>
  obtain ⟨y1,y2,h1,h2,ho⟩:=az (show aG (aM tm l) (aM tm c) (fun u v=>aG (eW u) (eW v) (qg E new t))=some (v,us) from ho0)
  obtain ⟨n1,n2,k1,k2,ho⟩:=az ho;obtain ⟨q1,rfl⟩:=kz k1;obtain ⟨q2,rfl⟩:=kz k2;have e1:=vV (val h1);have e2:=vV (val h2);obtain ⟨r,w',g',r1,r2⟩:=NS (kl:=q1) (kc:=q2) hE h hn ho;exact ⟨r,w',g',.inl (by simp only[execOp,Sem.run_bind,e1,e2,r1,Result.andThen_ok,Sem.run_pure]),r2⟩
 |slice t x lo hi mx=>
  obtain ⟨y,hy,ho⟩:=af (show aj (aM tm x) (fun v=>pb (dz tm lo) (dz tm hi) (dz tm mx) fun l u m=>same (qb E t v l u m))=some (v,us) from ho0)
  obtain ⟨l,u,m,h1,h2,h3,ho⟩:=pa ho;obtain ⟨z,hz,ho⟩:=af ho;cases ho;obtain ⟨r,r1,r2⟩:=NN (w:=w) hE hfr (val hy) h1 h2 h3 hz;exact ⟨r,w,g,.inl (by simp only[execOp,Sem.run_bind,r1,Result.andThen_ok,Sem.run_pure]),cx.same h r2⟩
 |fieldAddr s x k=>
  obtain ⟨y,hy,ho⟩:=af (show aj (aM tm x) (iN E s k)=some (v,us) from ho0);obtain ⟨r,r1,r2⟩:=zN (new:=new) hE h (val hy) ho;exact ⟨r,w,g,.inl (by simp only[execOp,Sem.run_bind,r1,Result.andThen_ok,Sem.run_pure]),r2⟩
 |field t x k=>
  obtain ⟨y,hy,ho⟩:=af (show aj (aM tm x) (mT E t k)=some (v,us) from ho0);obtain ⟨r,r1,r2⟩:=Kq (new:=new) hE h (val hy) ho;exact ⟨r,w,g,.inl (by simp only[execOp,Sem.run_bind,r1,Result.andThen_ok,Sem.run_pure]),r2⟩
 |indexAddr t x ix=>
  obtain ⟨y1,y2,h1,h2,ho⟩:=az (show aG (aM tm x) (aM tm ix) (fun v u=>aj (eW u) fun k=>same (gK E t v k))=some (v,us) from ho0)
  obtain ⟨n,wi,ho⟩:=af ho;obtain ⟨z,hz,ho⟩:=af ho;cases ho;obtain ⟨q,rfl⟩:=kz wi;have e2:=vV (val h2);obtain ⟨r,r1,r2⟩:=BE (w:=w) (kk:=q) hE (val h1) hz;exact ⟨r,w,g,.inl (by simp only[execOp,Sem.run_bind,e2,r1,Result.andThen_ok,Sem.run_pure]),cx.same h r2⟩
 |index t x ix=>
  obtain ⟨y1,y2,h1,h2,ho⟩:=az (show aG (aM tm x) (aM tm ix) (fun v u=>aj (eW u) fun k=>jM E t k v)=some (v,us) from ho0)
  obtain ⟨n,wi,ho⟩:=af ho;obtain ⟨q,rfl⟩:=kz wi;have e2:=vV (val h2);obtain ⟨r,r1,r2⟩:=Kp (new:=new) (kk:=q) hE h (val h1) ho;exact ⟨r,w,g,.inl (by simp only[execOp,Sem.run_bind,e2,r1,Result.andThen_ok,Sem.run_pure]),r2⟩
 |lookup t x k ok=>
  obtain ⟨y1,y2,h1,h2,ho⟩:=az (show aG (aM tm x) (aM tm k) (fun a b=>same (jN E f t a b ok))=some (v,us) from ho0)
  obtain ⟨z,hz,ho⟩:=af ho;cases ho;obtain ⟨r,r1,r2⟩:=KG hE h (val h1) (val h2) hz;exact ⟨r,w,g,.inl (by simp only[execOp,Sem.run_bind,r1,Result.andThen_ok,Sem.run_pure]),cx.same h r2⟩
 |range t x=>
  obtain ⟨y,hy,ho⟩:=af (show aj (aM tm x) (l6 E f new t)=some (v,us) from ho0);obtain ⟨r,w',g',r1,r2⟩:=Kn hE h hn (val hy) ho;exact ⟨r,w',g',.inl (by simp only[execOp,Sem.run_bind,r1,Result.andThen_ok,Sem.run_pure]),r2⟩
 |next it isS=>
  obtain ⟨y,hy,ho⟩:=af (show aj (aM tm it) (mh f isS)=some (v,us) from ho0);obtain ⟨r,w',r1,r2⟩:=NR (new:=new) (ty:=ty) hE h (val hy) ho;exact ⟨r,w',g,.inl (by simp only[execOp,Sem.run_bind,r1,Result.andThen_ok,Sem.run_pure]),r2⟩
 |typeAssert x xt t ok=>
  obtain ⟨y,hy,ho⟩:=af (show aj (aM tm x) (qh E t ok)=some (v,us) from ho0);obtain ⟨r,r1,r2⟩:=FI (new:=new) (xt:=xt) hE h (val hy) ho;exact ⟨r,w,g,.inl (by simp only[execOp,Sem.run_bind,r1,Result.andThen_ok,Sem.run_pure]),r2⟩
 |extract x i=>
  obtain ⟨y,hy,ho⟩:=af (show aj (aM tm x) (fun v=>aj (AA v) fun vs=>same (vs[i]?))=some (v,us) from ho0)
  obtain ⟨vs,hvs,ho⟩:=af ho;obtain ⟨z,hz,ho⟩:=af ho;cases ho;obtain rfl:=Qa hvs;have hv:=val hy;generalize hq:a.eval x=q at hv;cases hv with
  |tup hr=>
   obtain ⟨u,u1,u2⟩:=hr.get hz;refine ⟨u,w,g,.inl ?_,cx.same h u2⟩;simp only[execOp,hq,Instr.extract];rw[Array.getElem?_toList] at u1;rw[u1];rfl
 |call c=>
  have ho:fG E tm f new c=some (v,us):=ho0;unfold fG at ho;split at ho
  ·rename_i b hb;obtain ⟨aa,has,ho⟩:=af ho;obtain ⟨r,w',g',r1,r2⟩:=DC hE h hfr hn (ts:=c.argTypes) has ty (c.args.map fun| .const _=>true|_=>false) ho
   refine ⟨r,w',g',.inl ?_,r2⟩;simp only[execOp,resolve,hb,Sem.run_bind,Sem.run_pure,Result.andThen_ok,invoke];exact r1
  ·cases ho
 |_=>cases ho0
end
section
variable {E:Env} {g:Gh} {f f':Hf} {w:World} {T T':Tf}
theorem P5 {x:Operand} (h:∀t,x= .tmp t->T t=T' t):aM T x=aM T' x:=by
 cases x with
 |tmp t=>exact h t rfl
 |_=>rfl
theorem mc:∀{xs:List Operand},(∀x∈xs,aM T x=aM T' x)->bT T xs=bT T' xs
 | [],_=>rfl
 |x::xs,h=>by
  show aG (aM T x) (bT T xs) _=aG (aM T' x) (bT T' xs) _;rw[h x (by simp),mc fun y hy=>h y (by simp[hy])]
theorem qe:∀{ps:List (Nat×Operand)},(∀p∈ps,aM T p.2=aM T' p.2)->ea T ps=ea T' ps
 | [],_=>rfl
 |p::ps,h=>by
  show aj (aM T p.2) (fun v=>aG v.cells (ea T ps) _)=aj (aM T' p.2) (fun v=>aG v.cells (ea T' ps) _)
  rw[h p (by simp),qe fun q hq=>h q (by simp[hq])]
theorem qf {x:Option Operand} (h:∀y,x=some y->aM T y=aM T' y):dz T x=dz T' x:=by
 cases x with
 |none=>rfl
 |some y=>
  show aj (aM T y) _=aj (aM T' y) _;rw[h y rfl]
theorem zX {v:SV} {q:Nat×Nat} (h:ld v=some q):q.1∈eo (some v):=by
 rw[iB h];simp[eo]
theorem N6 {t:TypeId} {v:SV} (h:∀id∈eo (some v),f id=f' id):g8 E f t v=g8 E f' t v:=by
 unfold g8;cases hp:ld v with
 |none=>rfl
 |some q=>
  show aj (E.ty.get t) (fun i=>aj (cL (f q.1) q.2 (wide i)) _)=aj (E.ty.get t) (fun i=>aj (cL (f' q.1) q.2 (wide i)) _)
  rw[h _ (zX hp)]
theorem Iv {t:TypeId} {v a:SV} (h:∀id∈eo (some a),f id=f' id):ir E f t v a=ir E f' t v a:=by
 unfold ir;cases hp:ld a with
 |none=>rfl
 |some q=>
  show pb (E.ty.get t) v.cells (jF (f q.1)) _=pb (E.ty.get t) v.cells (jF (f' q.1)) _;rw[h _ (zX hp)]
theorem LM {x:SV} (h:∀id∈eo (some x),f id=f' id):LN x f=LN x f':=by
 cases x<;>first|rfl|(rename_i id;show aj (jc (f id)) _=aj (jc (f' id)) _;rw[h id (by simp[eo])])
theorem FN {t:TypeId} {x k:SV} {ok:Bool} (h:∀id∈eo (some x),f id=f' id):jN E f t x k ok=jN E f' t x k ok:=by
 unfold jN;rw[LM h]
theorem Az {t:TypeId} {x k v:SV} (h:∀id∈eo (some x),f id=f' id):lC E f t x k v=lC E f' t x k v:=by
 unfold lC;cases hp:YM x with
 |none=>rfl
 |some id=>
  have:=E2 hp;subst this;show aj (E.ty.get t) (fun i=>aj (ql i.desc) fun q=>aG (E.ty.get q.1) (jc (f id)) _)=aj (E.ty.get t) (fun i=>aj (ql i.desc) fun q=>aG (E.ty.get q.1) (jc (f' id)) _)
  rw[h id (by simp[eo])]
theorem FH {new:Nat} {t:TypeId} {x:SV} (h:∀id∈eo (some x),f id=f' id):l6 E f new t x=l6 E f' new t x:=by
 have e:∀D:UD,vO D x f=vO D x f':=by
  intro D;cases D<;>first|rfl|skip
  cases x<;>first|rfl|(rename_i id;show aj (jc (f id)) _=aj (jc (f' id)) _;rw[h id (by simp[eo])])
 unfold l6;simp only[e]
theorem Ko {isS:Bool} {x:SV} (h:∀id∈eo (some x),f id=f' id):mh f isS x=mh f' isS x:=by
 unfold mh;cases hp:CU x with
 |none=>rfl
 |some id=>
  obtain ⟨q,h1,h2⟩:=af hp;obtain ⟨_,h2⟩:=ar h2;cases h2;show sel isS (aj (rq (f q.1)) _) none=sel isS (aj (rq (f' q.1)) _) none;rw[h _ (zX h1)]
theorem vr {id off n:Nat} (h:f id=f' id):eV f id off n=eV f' id off n:=by unfold eV;rw[h]
theorem ze {size : Nat} {x : SV} (h : ∀ id ∈ eo (some x), f id = f' id) : iu f size x = iu f' size x := by
  cases x <;> first
    | rfl
    | (rename_i id off n c
       have e : rowOf (.sl id off n c) f size = rowOf (.sl id off n c) f' size := vr (h id (by simp [eo]))
       show dO f size (.sl id off n c) = dO f' size (.sl id off n c)
       unfold dO
       rw [e])
theorem Oi {s : SV} {new : Nat} {e : TypeId} {size m : Nat} {xs : List SV} (h : ∀ id ∈ eo (some s), f id = f' id) : pg s f new e size m xs = pg s f' new e size m xs := by
  cases s <;> first
    | rfl
    | (rename_i id off n c
       show xZ f new e size m xs id off n c = xZ f' new e size m xs id off n c
       unfold xZ
       rw [h id (by simp [eo]), vr (h id (by simp [eo]))])
theorem FQ {new:Nat} {t:TypeId} {s x:SV} (h1:∀id∈eo (some s),f id=f' id) (h2:∀id∈eo (some x),f id=f' id):gp E f new t s x=gp E f' new t s x:=by
 unfold gp Ey;have e1:∀size,iu f size x=iu f' size x:=fun size=>ze h2
 have e2:∀e size m xs,pg s f new e size m xs=pg s f' new e size m xs:=fun e size m xs=>Oi h1
 simp only[e1,e2]
theorem LY {d : SV} {size n : Nat} {xs : List SV} (h : ∀ id ∈ eo (some d), f id = f' id) : n6 d f size n xs = n6 d f' size n xs := by
  cases d <;> first
    | rfl
    | (rename_i id off m c
       show th f size n xs id off = th f' size n xs id off
       unfold th
       rw [h id (by simp [eo])])
theorem Oe {t:TypeId} {d s:SV} (h1:∀id∈eo (some d),f id=f' id) (h2:∀id∈eo (some s),f id=f' id):jV E f t d s=jV E f' t d s:=by
 unfold jV Gu;have e1:∀size,iu f size s=iu f' size s:=fun size=>ze h2
 have e2:∀size m xs,n6 d f size m xs=n6 d f' size m xs:=fun size m xs=>LY h1
 simp only[e1,e2]
theorem QW {D : UD} {x : SV} (h : ∀ id ∈ eo (some x), f id = f' id) : mX D x f = mX D x f' := by
  cases D <;> first
    | rfl
    | (show YQ x f = YQ x f'
       cases x <;> first | rfl | (rename_i id; show aj (jc (f id)) _ = aj (jc (f' id)) _; rw [h id (by simp [eo])]))
theorem j7 {xs:List Operand} {x:Operand} (hx:x∈xs) {id:Nat} (h:id∈eo (aM T x)):id∈g9 T xs:=by
 induction xs with
 |nil=>simp at hx
 |cons y ys ih=>
  show id∈eo (aM T y)++g9 T ys;rw[List.mem_append];rcases List.mem_cons.1 hx with rfl|hx
  ·exact .inl h
  ·exact .inr (ih hx)
theorem Lc:∀{xs:List Operand} {aa:List SV},bT T xs=some aa->∀a∈aa,∀id∈eo (some a),id∈g9 T xs
 | [],aa,h,a,ha,_,_=>by cases h;simp at ha
 |x::xs,aa,h,a,ha,id,hid=>by
  obtain ⟨v,l,h1,h2,h3⟩:=az h;cases h3;show id∈eo (aM T x)++g9 T xs;rw[List.mem_append];rcases List.mem_cons.1 ha with rfl|ha
  ·rw[h1];exact .inl hid
  ·exact .inr (Lc h2 a ha id hid)
theorem Fc:∀{xs:List Operand} {aa:List SV},bT T xs=some aa->∀a∈aa,∀id∈idM (some a),id∈ud T xs
 | [],aa,h,a,ha,id,hid=>by
  have h:some []=some aa:=h;cases h;cases ha
 |x::xs,aa,h,a,ha,id,hid=>by
  obtain ⟨v,l,h1,h2,h3⟩:=az (show aG (aM T x) (bT T xs) (fun v l=>some (v::l))=some aa from h)
  cases h3;show id∈idM (aM T x)++ud T xs;rcases List.mem_cons.1 ha with e|ha
  ·rw[h1,<-e];exact List.mem_append_left _ hid
  ·exact List.mem_append_right _ (Fc h2 a ha id hid)
def agk (b:Builtin):Bool:=match b with| .len=>true|_=>false
theorem N7 {D:UD} {x:SV} (h:∀id∈idM (some x),f id=f' id):mX D x f=mX D x f':=by
 cases x<;>first|exact QW h|(cases D<;>rfl)
theorem Wn {op : Op} {new : Nat} (hT : ∀ x ∈ op.operands.toList, aM T x = aM T' x) (hf : ∀ id ∈ eC op T, f id = f' id) : opA E op T f new = opA E op T' f' new := by
  have iC : ∀ (x : Operand) (k : SV -> Option (SV × List Up)), x ∈ op.operands.toList -> one T x k = one T' x k := fun x k hx => by unfold one; rw [hT x hx]
  have vv : ∀ (x y : Operand) (k : SV -> SV -> Option (SV × List Up)), x ∈ op.operands.toList -> y ∈ op.operands.toList -> two T x y k = two T' x y k := fun x y k hx hy => by unfold two; rw [hT x hx, hT y hy]
  have DG : ∀ (x : Operand) (k k' : SV -> Option (SV × List Up)), x ∈ op.operands.toList -> (∀ v, aM T x = some v -> k v = k' v) -> one T x k = one T' x k' := fun x k k' hx hk => by
    rw [<- iC x k' hx]
    unfold one
    cases hv : aM T x with
    | none => rfl
    | some v => exact hk v hv
  have P8 : ∀ (x y : Operand) (k k' : SV -> SV -> Option (SV × List Up)), x ∈ op.operands.toList -> y ∈ op.operands.toList -> (∀ v u, aM T x = some v -> aM T y = some u -> k v u = k' v u) -> two T x y k = two T' x y k' := fun x y k k' hx hy hk => by
    rw [<- vv x y k' hx hy]
    unfold two
    cases hv : aM T x with
    | none => rfl
    | some v =>
      cases hu : aM T y with
      | none => rfl
      | some u => exact hk v u hv hu
  cases op with
  | move x => exact iC x _ (by simp [Op.operands])
  | assign x => exact iC x _ (by simp [Op.operands])
  | pick c x y =>
    show aj (aM T c) (fun v => aj (g6 v) fun b => one T (sel b x y) _) = aj (aM T' c) (fun v => aj (g6 v) fun b => one T' (sel b x y) _)
    rw [hT c (by simp [Op.operands])]
    congr 1
    funext v
    congr 1
    funext b
    cases b
    · exact iC y _ (by simp [Op.operands])
    · exact iC x _ (by simp [Op.operands])
  | alloc e => rfl
  | box e x => exact iC x _ (by simp [Op.operands])
  | build t ps =>
    show aj (ea T ps.toList) _ = aj (ea T' ps.toList) _
    rw [qe fun p hp => hT p.2 (by simp [Op.operands]; exact ⟨p.1, by simpa using hp⟩)]
  | buildSlice t n ps =>
    show aj (ea T ps.toList) _ = aj (ea T' ps.toList) _
    rw [qe fun p hp => hT p.2 (by simp [Op.operands]; exact ⟨p.1, by simpa using hp⟩)]
  | insert t m k x =>
    refine P8 m k _ _ (by simp [Op.operands]) (by simp [Op.operands]) fun v u hv hu => DG x _ _ (by simp [Op.operands]) fun c hc => ?_
    rw [Az fun id hid => hf id (j7 (xs := [m, k, x]) (x := m) (by simp) (by rw [hv]; exact hid))]
  | mapUpdate t m k x =>
    refine P8 m k _ _ (by simp [Op.operands]) (by simp [Op.operands]) fun v u hv hu => DG x _ _ (by simp [Op.operands]) fun c hc => ?_
    rw [Az fun id hid => hf id (j7 (xs := [m, k, x]) (x := m) (by simp) (by rw [hv]; exact hid))]
  | load t x =>
    refine DG x _ _ (by simp [Op.operands]) fun v hv => ?_
    rw [N6 fun id hid => hf id (j7 (xs := [x]) (x := x) (by simp) (by rw [hv]; exact hid))]
  | store t x y =>
    refine P8 x y _ _ (by simp [Op.operands]) (by simp [Op.operands]) fun v u hv hu => ?_
    rw [Iv fun id hid => hf id (j7 (xs := [x, y]) (x := x) (by simp) (by rw [hv]; exact hid))]
  | nilCheck x => exact iC x _ (by simp [Op.operands])
  | binOp op t x y yt => exact vv x y _ (by simp [Op.operands]) (by simp [Op.operands])
  | unOp op t x => exact iC x _ (by simp [Op.operands])
  | convert s d x => exact iC x _ (by simp [Op.operands])
  | makeInterface t x => exact iC x _ (by simp [Op.operands])
  | makeFunc fn a c =>
    show sel (DH fn) (aG (bT T a.toList) (bT T c.toList) _) none = sel (DH fn) (aG (bT T' a.toList) (bT T' c.toList) _) none
    rw [mc fun x hx => hT x (by simp [Op.operands]; exact .inl (by simpa using hx)), mc fun x hx => hT x (by simp [Op.operands]; exact .inr (by simpa using hx))]
  | makeMap t r =>
    cases r with
    | none => rfl
    | some x =>
      show aG (E.ty.get t) (aM T x) _ = aG (E.ty.get t) (aM T' x) _
      rw [hT x (by simp [Op.operands])]
  | makeSlice t l c => exact vv l c _ (by simp [Op.operands]) (by simp [Op.operands])
  | slice t x lo hi mx =>
    refine DG x _ _ (by simp [Op.operands]) fun v hv => ?_
    rw [qf (x := lo) fun y hy => hT y (by subst hy; simp [Op.operands]), qf (x := hi) fun y hy => hT y (by subst hy; simp [Op.operands]), qf (x := mx) fun y hy => hT y (by subst hy; simp [Op.operands])]
  | fieldAddr s x k => exact iC x _ (by simp [Op.operands])
  | field t x k => exact iC x _ (by simp [Op.operands])
  | indexAddr t x ix => exact vv x ix _ (by simp [Op.operands]) (by simp [Op.operands])
  | index t x ix => exact vv x ix _ (by simp [Op.operands]) (by simp [Op.operands])
  | lookup t x k ok =>
    refine P8 x k _ _ (by simp [Op.operands]) (by simp [Op.operands]) fun v u hv hu => ?_
    rw [FN fun id hid => hf id (j7 (xs := [x, k]) (x := x) (by simp) (by rw [hv]; exact hid))]
  | range t x =>
    refine DG x _ _ (by simp [Op.operands]) fun v hv => ?_
    exact FH fun id hid => hf id (j7 (xs := [x]) (x := x) (by simp) (by rw [hv]; exact hid))
  | next it isS =>
    refine DG it _ _ (by simp [Op.operands]) fun v hv => ?_
    exact Ko fun id hid => hf id (j7 (xs := [it]) (x := it) (by simp) (by rw [hv]; exact hid))
  | typeAssert x xt t ok => exact iC x _ (by simp [Op.operands])
  | extract x i => exact iC x _ (by simp [Op.operands])
  | call c =>
    show fG E T f new c = fG E T' f' new c
    unfold fG
    split
    · rename_i b hb
      have ev : bT T c.args.toList = bT T' c.args.toList := mc fun x hx => hT x (by simp [Op.operands, Call.operands, hb]; simpa using hx)
      rw [<- ev]
      cases hv : bT T c.args.toList with
      | none => rfl
      | some aa =>
        have hid0 : ka c = false -> ∀ a ∈ aa, ∀ id ∈ eo (some a), f id = f' id := fun hl a ha id h => hf id (by
          show id ∈ sel (ka c) (ud T c.args.toList) (g9 T c.args.toList)
          rw [hl]; exact Lc hv a ha id h)
        have hidM : ka c = true -> ∀ a ∈ aa, ∀ id ∈ idM (some a), f id = f' id := fun hl a ha id h => hf id (by
          show id ∈ sel (ka c) (ud T c.args.toList) (g9 T c.args.toList)
          rw [hl]; exact Fc hv a ha id h)
        have YR : ka c = agk b := by unfold ka; rw [hb]; cases b <;> rfl
        show fX E f new b aa _ = fX E f' new b aa _
        have e1 : ka c = false -> ∀ t p, jf aa = some p -> gp E f new t p.1 p.2 = gp E f' new t p.1 p.2 := fun hl t p h1 => by
          have hid := hid0 hl
          have hp := kg h1
          exact FQ (hid p.1 (by rw [hp]; simp)) (hid p.2 (by rw [hp]; simp))
        have e2 : ka c = false -> ∀ t p, jf aa = some p -> jV E f t p.1 p.2 = jV E f' t p.1 p.2 := fun hl t p h1 => by
          have hid := hid0 hl
          have hp := kg h1
          exact Oe (hid p.1 (by rw [hp]; simp)) (hid p.2 (by rw [hp]; simp))
        have e3 : ka c = true -> ∀ D x, aa.head? = some x -> mX D x f = mX D x f' := fun hl D x h1 => N7 (hidM hl x (List.mem_of_head? h1))
        unfold fX
        cases b <;> (first | (have e1 := e1 YR; have e2 := e2 YR) | (have e3 := e3 YR)) <;> first
          | rfl
          | (simp only
             generalize hq : jf aa = q at e1 e2
             cases q with
             | none => rfl
             | some p => first | (simp only [aG, e1 _ p rfl]; done) | (simp only [aG, e2 _ p rfl]; done))
          | (simp only
             generalize hq : aa.head? = q at e3
             cases q with
             | none => rfl
             | some p => simp only [aG, e3 _ p rfl])
    · rfl
  | _ => rfl
end
section
variable {E:Env} {g:Gh} {f:Hf} {w:World}
def fro (ro:Option Nat):Fence:={fn:=fun _=>True,depth:=none,alive:=false,round:=ro}
def fA (T:Tf) (d:Option Nat) (v:SV):Tf:=fun t=>if d=some t then some v else T t
theorem mS (tm:Tr SV) (d:Option Nat) (v:SV):(bB tm d v).get=fA tm.get d v:=by
 cases d with
 |none=>funext t;simp[bB,fA]
 |some d=>
  funext t;show (tm.set d (some v)).get t=_;rw[Tr.dv];simp only[fA,Option.some.injEq];by_cases h:t=d
  ·subst h;simp
  ·rw[if_neg h,if_neg (fun e=>h e.symm)]
theorem ZT {nt d:Nat} (h:cK nt (some d)=true):d<nt:=(bk _ _).1 h
theorem FR.put {nt:Nat} {T:Tf} {a:Act} (h:FR g nt T a.tmps) {d:Option Nat} (hd:cK nt d=true) {v:SV} {r:Value} (hv:VR g r v):FR g nt (fA T d v) (a.put d r).tmps:=by
 cases d with
 |none=>
  refine ⟨h.sz,fun t x hx=>h.tm t x ?_⟩
  simpa[fA] using hx
 |some d=>
  have hlt:=ZT hd;refine ⟨by simpa[Act.put] using h.sz,fun t x hx=> ?_⟩
  simp only[fA,Option.some.injEq] at hx;show VR g ((a.tmps.setIfInBounds d r).getD t undef) x;simp only[Array.getD_eq_getD_getElem?,Array.getElem?_setIfInBounds];split at hx
  ·rename_i e;subst e;obtain rfl:v=x:=by simpa using hx
   have:d<a.tmps.size:=by rw[h.sz];exact hlt
   simpa[this] using hv
  ·rename_i e;rw[if_neg e];have:=h.tm t x hx;simpa[Array.getD_eq_getD_getElem?] using this
theorem put_defers (a:Act) (d:Option Nat) (r:Value):(a.put d r).defers=a.defers:=by cases d<;>rfl
theorem rb:∀(l:List Oper) (j:Nat),qk l j=(l[j]?).bind (·.dst)
 | [],j=>by simp;rfl
 |o::l,0=>rfl
 |o::l,j+1=>by
  show qk l j=_;rw[rb l j];simp
theorem rU {nt:Nat} {T:Tf} {a:Act} (h:FR g nt T a.tmps) {all:Array Oper} {o:Oper} {b:Bool} (hw:cg all.toList o T=some b):Region.wanted o (yielded all a.tmps)=b:=by
 unfold cg at hw;unfold Region.wanted;cases hg:o.guard with
 |none=>rw[hg] at hw;cases hw;rfl
 |some p=>
  obtain ⟨j,want⟩:=p;rw[hg] at hw;have hw:lV all.toList T j want=some b:=hw;unfold lV at hw;rw[rb,Array.getElem?_toList] at hw;simp only[yielded];cases hd:(all[j]?).bind (·.dst) with
  |none=>
   rw[hd] at hw;cases hw;simp
  |some t=>
   rw[hd] at hw;obtain ⟨x,hx,hw⟩:=af (show aj (T t) (P2 want)=some b from hw);have hv:=h.tm t x hx;simp only[Option.bind_some];rw[Array.getD_eq_getD_getElem?] at hv;cases ht:a.tmps[t]? with
   |none=>
    rw[ht] at hv;simp only[Option.getD_none] at hv;have hu:(undef:Value)= .tuple #[]:=rfl;rw[hu] at hv;cases hv with
    |tup _=>cases hw;rfl
    |undef _=>cases hw
   |some u=>
    rw[ht] at hv;simp only[Option.getD_some] at hv;cases hv<;>first
     |(cases hw;rfl)
     |(rename_i c;cases hw;cases c<;>cases want<;>rfl)
     |cases hw
def gR (D:Nat->Bool) (H f:Hf):Hf:=fun x=>if D x=true then H x else f x
def nG (E:Env) (ro:Option Nat) (nt:Nat) (all:Array Oper) (i:Nat) (o:Oper) (T:Tf) (need:Nat->Prop) (H:Hf) (frp newp:Nat->Prop) (v:SV) (D:Nat->Bool) (H':Hf):Prop:=
 ∀(m:Nat) (g:Gh) (f:Hf) (T1:Tf) (a:Act) (w:World) (K:Act->World->Prop) (Q:Exit->Act->World->Prop),bC E g->FR g nt T1 a.tmps->HR g f w->(∀t∈o.looksAt all,T1 t=T t)->(∀x,need x->f x=H x)->(∀x,frp x->g.ρ x=none)->
  (∀r w' g',FR g' nt (fA T1 o.dst v) (a.put o.dst r).tmps->HR g' (gR D H' f) w'->Fr g f w g' (gR D H' f) w'->(∀x,¬newp x->g'.ρ x=g.ρ x)->K (a.put o.dst r) w')->
  wpOpIn (fro ro) m E.P all Q i K a w
theorem vp {all:Array Oper} {o:Oper} {T T1:Tf} (h:∀t∈o.looksAt all,T1 t=T t):∀x∈o.op.operands.toList,aM T1 x=aM T x:=fun x hx=>P5 fun t ht=>h t (by
 subst ht;exact List.mem_append_left _ (List.mem_filterMap.2 ⟨.tmp t,hx,rfl⟩))
theorem oi {all:Array Oper} {o:Oper} {T T1:Tf} (h:∀t∈o.looksAt all,T1 t=T t):cg all.toList o T1=cg all.toList o T:=by
 unfold cg;cases hg:o.guard with
 |none=>rfl
 |some p=>
  show lV all.toList T1 p.1 p.2=lV all.toList T p.1 p.2;unfold lV;rw[rb,Array.getElem?_toList];cases hd:(all[p.1]?).bind (·.dst) with
  |none=>rfl
  |some t=>
   show aj (T1 t) _=aj (T t) _;rw[h t (by simp[Oper.looksAt,hg,hd])]
theorem pR:∀(us:List Up) (H f:Hf) (x:Nat),gF f us x=if x∈us.map (·.1) then gF H us x else f x
 | [],H,f,x=>by simp[gF]
 |u::us,H,f,x=>by
  show gF (upF f u) us x=if x∈(u::us).map (·.1) then gF (upF H u) us x else f x
  rw[pR us (upF H u) (upF f u) x];by_cases h1:x∈us.map (·.1)
  ·rw[if_pos h1,if_pos (by simp at h1 ⊢;exact .inr h1)]
  ·rw[if_neg h1];by_cases h2:x=u.1
   ·rw[if_pos (by simp[h2])]
    rw[pR us (upF f u) (upF H u) x,if_neg h1];simp[upF,h2]
   ·rw[if_neg (by simp at h1 ⊢;exact ⟨h2,h1⟩)]
    simp[upF,h2]
theorem uU {ro:Option Nat} {o:Oper} {a:Act} (P:Program) (w:World):∀k,o.about P w a.eval=some k->(fro ro).fn k:=fun _ _=>trivial
theorem zd {ro:Option Nat} {nt:Nat} {all:Array Oper} {i:Nat} {o:Oper} {T:Tf} {H:Hf} {new:Nat} {v:SV} {us:List Up} (hi:all[i]? =some o) (hw:cg all.toList o T=some true) (hd:cK nt o.dst=true)
  (ho:opA E o.op T H new=some (v,us)) (hH:H new=none) {D:Nat->Bool} (hD:∀x,D x=true↔(x∈us.map (·.1)\/x=new)) (hnd:∀c,o.op≠ .defer c):
  nG E ro nt all i o T (fun x=>x∈eC o.op T) H (fun x=>x=new) (fun x=>x=new/\us≠ []) v D (gF H us):=by
 intro m g f T1 a w K Q hE hfr hr hT Ge eM hk;have e1:opA E o.op T1 f new=some (v,us):=by
  rw[<-ho];refine (Wn (fun x hx=>(vp hT x hx).symm) (fun id hid=>(Ge id hid).symm)).symm
 have hn:=eM new rfl;obtain ⟨r,w',g',fj,hp⟩:=YB hE hr hfr hn e1;have uj:gF f us=gR D (gF H us) f:=by
  funext x;unfold gR;rw[pR us H f x];by_cases h1:x∈us.map (·.1)
  ·rw[if_pos h1,if_pos ((hD x).2 (.inl h1))]
  ·rw[if_neg h1];by_cases h2:x=new
   ·rw[if_pos ((hD x).2 (.inr h2)),pR us f H x,if_neg h1,h2,hH,hr.sW hn]
   ·rw[if_neg (fun h=>by rcases (hD x).1 h with h|h;exact h1 h;exact h2 h)]
 have hkk:=hk r w' g' ((hfr.mono hp.fr.le).put hd hp.val) (uj ▸ hp.hr) (uj ▸ hp.fr) (fun x hx=>by
  by_cases hu:us= []
  ·rw[hp.nil hu]
  ·exact hp.ro x (fun he=>hx ⟨he,hu⟩))
 unfold wpOpIn;rw[hi];simp only;rw[if_pos (rU hfr (by rw[oi hT];exact hw))]
 refine ⟨uU E.P w,?_⟩;rw[Oper.semAt_eq _ _ _ hnd];rcases fj with h1|⟨h1,rfl⟩
 ·rw[h1];exact hkk
 ·rw[h1];exact hkk
theorem step_skip {ro:Option Nat} {nt:Nat} {all:Array Oper} {i:Nat} {o:Oper} {T:Tf} {H:Hf} {new:Nat} (hi:all[i]? =some o) (hw:cg all.toList o T=some false) (hd:cK nt o.dst=true) (hH:H new=none) {D:Nat->Bool} (hD:∀x,D x=true↔x=new):
  nG E ro nt all i o T (fun _=>False) H (fun x=>x=new) (fun _=>False) (.tup []) D H:=by
 intro m g f T1 a w K Q hE hfr hr hT Ge eM hk;have hn:=eM new rfl;have uj:f=gR D H f:=by
  funext x;unfold gR;by_cases h2:x=new
  ·rw[if_pos ((hD x).2 h2),h2,hH,hr.sW hn]
  ·rw[if_neg (fun h=>h2 ((hD x).1 h))]
 have hkk:=hk undef w g (hfr.put hd (.tup .nil)) (uj ▸ hr) (uj ▸ Fr.refl g f w) (fun _ _=>rfl)
 unfold wpOpIn;rw[hi];simp only;have hwn:=rU hfr (by rw[oi hT];exact hw)
 rw[if_neg (by rw[hwn];simp)]
 exact ⟨uU E.P w,hkk⟩
def yT (P : Program) (m : Nat) (u : Value) (us : Array Value) (w : World) (K : Ending -> World -> Prop) : Prop :=
  ∃ d, (Deferred.ofValue u us).run P w = .ok d w /\
    ((∃ k aa, (invoke d.target d.args).run P w = .ok (.enter k aa) w /\ CallsIn Fence.wide m P k aa w K) \/
     (∃ l k tmps aa bo, (invoke d.target d.args).run P w = .ok (.round l k tmps aa bo) w /\ RoundIn Fence.wide m P l k tmps aa bo w K) \/
     (∃ r w', (invoke d.target d.args).run P w = .ok (.value r) w' /\ K (.returned r) w'))
theorem yT.mono {P:Program} {m:Nat} {u:Value} {us:Array Value} {w:World} {K K':Ending->World->Prop} (h:yT P m u us w K) (hk:∀e w',K e w'->K' e w'):yT P m u us w K':=by
 obtain ⟨d,h1,h2⟩:=h;refine ⟨d,h1,?_⟩;rcases h2 with ⟨k,aa,q1,q2⟩|⟨l,k,t,aa,bo,q1,q2⟩|⟨r,w',q1,q2⟩
 ·exact .inl ⟨k,aa,q1,CallsIn.mono q2 hk⟩
 ·exact .inr (.inl ⟨l,k,t,aa,bo,q1,RoundIn.mono q2 hk⟩)
 ·exact .inr (.inr ⟨r,w',q1,hk _ _ q2⟩)
def BU (pan:Bool) (u:Value):Ending:=if pan=true then .panicked [{v:=u,recovered:=false}] else .returned u
def Ce (g:Gh) (H:Hf) (w:World) (nx:Nat) (r:Rs) (e:Ending) (w':World):Prop:=
 ∃u g',e=BU r.pan u/\VR g' u r.v/\HR g' r.h.hp.get w'/\Fr g H w g' r.h.hp.get w'/\(∀x,x<nx->g'.ρ x=g.ρ x)/\∀x,r.h.nx<=x->g'.ρ x=none
def lS (E:Env) (fv:SV) (aa:List SV) (H:Hf) (nx:Nat) (l:List Rs):Prop:=
 ∀(m:Nat) (g:Gh) (w:World) (u:Value) (us:List Value),bC E g->HR g H w->(∀x,nx<=x->g.ρ x=none)->VR g u fv->VRs g us aa->
  yT E.P m u us.toArray w fun e w'=>∃r∈l,Ce g H w nx r e w'
def kF (E:Env) (pan:Bool) (fv:SV) (aa:List SV) (H:Hf) (nx:Nat) (v:SV) (H':Hf) (nx':Nat):Prop:=
 ∀(m:Nat) (g:Gh) (w:World) (u:Value) (us:List Value),bC E g->HR g H w->(∀x,nx<=x->g.ρ x=none)->VR g u fv->VRs g us aa->
  yT E.P m u us.toArray w fun e w'=>∃r,e=BU pan r/\∃g',VR g' r v/\HR g' H' w'/\Fr g H w g' H' w'/\(∀x,x<nx->g'.ρ x=g.ρ x)/\∀x,nx'<=x->g'.ρ x=none
theorem lS.one {fv:SV} {aa:List SV} {H:Hf} {nx:Nat} {r:Rs} (h:lS E fv aa H nx [r]):kF E r.pan fv aa H nx r.v r.h.hp.get r.h.nx:=
 fun m g w u us hE hr hnx hu hus=>(h m g w u us hE hr hnx hu hus).mono fun e w' ⟨r',hm,u',g',q1,q2,q3,q4,q5,q6⟩=>by
  obtain rfl:=List.mem_singleton.1 hm;exact ⟨u',q1,g',q2,q3,q4,q5,q6⟩
theorem RF {H H':Hf} {g':Gh} {w':World} {nx:Nat} {D:Nat->Bool} (hr:HR g f w) (qu:∀x o,H x=some o->f x=some o) (Lo:∀x,nx<=x->g.ρ x=none) (hr':HR g' H' w') (hf:Fr g H w g' H' w') (hro:∀x,x<nx->g'.ρ x=g.ρ x)
  (hD:∀x,D x=false->x<nx->H' x=H x) (hD2:∀x,D x=false->nx<=x->H' x=none):HR g' (gR D H' f) w'/\Fr g f w g' (gR D H' f) w':=by
 have hfn:∀x,nx<=x->f x=none:=fun x hx=>hr.sW (Lo x hx)
 have other:∀x o,D x=false->f x=some o->H x=none->∃b c,g.ρ x=some (b,c)/\b<w.heap.size/\OR g w x b c o/\¬SF g H b:=by
  intro x o hd hx hn;obtain ⟨b,c,q1,q2,q3⟩:=hr.ob x o hx;refine ⟨b,c,q1,q2,q3,fun ⟨id,o',c',h1,h2⟩=> ?_⟩
  have:=hr.inj id x o' o b c' c (qu id o' h1) hx h2 q1;subst this;rw[hn] at h1;simp at h1
 have xF:∀x o,f x=some o->x<nx:=fun x o hx=>by
  by_cases h:nx<=x
  ·rw[hfn x h] at hx;simp at hx
  ·omega
 have cls:∀x o,gR D H' f x=some o->H' x=some o\/(D x=false/\f x=some o/\H x=none):=by
  intro x o hx;unfold gR at hx;split at hx
  ·exact .inl hx
  ·rename_i hd;have hd:D x=false:=by simpa using hd
   cases hh:H x with
   |none=>exact .inr ⟨hd,hx,rfl⟩
   |some o'=>
    have:=qu x o' hh;rw[hx] at this;cases this;exact .inl ((hD x hd (xF x o hx)).trans hh)
 refine ⟨⟨fun x o hx=> ?_,fun i j x y b c d hx hy e1 e2=> ?_⟩,⟨hf.os,hf.tape,hf.output,hf.size,hf.le,fun b hb hn=>hf.old b hb (fun ⟨id,o,c,h1,h2⟩=>hn ⟨id,o,c,qu id o h1,h2⟩),fun b hb hm=> ?_⟩⟩
 ·rcases cls x o hx with h1|⟨h1,h2,h3⟩
  ·exact hr'.ob x o h1
  ·obtain ⟨b,c,q1,q2,q3,q4⟩:=other x o h1 h2 h3;exact ⟨b,c,(hro x (xF x o h2)).trans q1,Nat.lt_of_lt_of_le q2 hf.size,q3.mono hf.le q1 (hf.old b q2 q4)⟩
 ·have adC:∀p q z z' b c d,H' p=some z->D q=false->f q=some z'->H q=none->g'.ρ p=some (b,c)->g'.ρ q=some (b,d)->False:=by
   intro p q z z' b c d h1 h2 h3 h4 e1 e2;obtain ⟨b',c',q1,q2,q3,q4⟩:=other q z' h2 h3 h4;rw[hro q (xF q z' h3),q1] at e2;cases e2;exact q4 (hf.own _ q2 ⟨p,z,c,h1,e1⟩)
  rcases cls i x hx with h1|⟨h1,h2,h3⟩<;>rcases cls j y hy with k1|⟨k1,k2,k3⟩
  ·exact hr'.inj i j x y b c d h1 k1 e1 e2
  ·exact (adC i j x y b c d h1 k1 k2 k3 e1 e2).elim
  ·exact (adC j i y x b d c k1 h1 h2 h3 e2 e1).elim
  ·rw[hro i (xF i x h2)] at e1;rw[hro j (xF j y k2)] at e2;exact hr.inj i j x y b c d h2 k2 e1 e2
 ·obtain ⟨x,o,c,hx,e⟩:=hm;rcases cls x o hx with h1|⟨h1,h2,h3⟩
  ·obtain ⟨id,o',c',q1,q2⟩:=hf.own b hb ⟨x,o,c,h1,e⟩;exact ⟨id,o',c',qu id o' q1,q2⟩
  ·rw[hro x (xF x o h2)] at e;exact ⟨x,o,c,h2,e⟩
theorem Pd {ro:Option Nat} {nt:Nat} {all:Array Oper} {i:Nat} {o:Oper} {c:Call} {T T1:Tf} {H:Hf} {fv:SV} {aa:List SV} {nx m:Nat} {a:Act} {KE:Ending->World->Prop} {K:Act->World->Prop} {Q:Exit->Act->World->Prop} (hi:all[i]? =some o) (hw:cg all.toList o T=some true)
  (hop:o.op= .call c) (hc:ig T c.callee=some fv) (has:bT T c.args.toList=some aa) (hfr:FR g nt T1 a.tmps) (hT:∀t∈o.looksAt all,T1 t=T t)
  (hs:∀(u:Value) (us:List Value),VR g u fv->VRs g us aa->yT E.P (m-1) u us.toArray w KE) (hk:∀e w',KE e w'->∃pan r,e=BU pan r/\(pan=false->K (a.put o.dst r) w')/\(pan=true->Q (.panic [{v:=r,recovered:=false}]) a w')):
  wpOpIn (fro ro) m E.P all Q i K a w:=by
 obtain ⟨x,hx⟩:∃x,c.callee= .value x:=by
  cases hcc:c.callee with
  |value x=>exact ⟨x,rfl⟩
  |_=>rw[hcc] at hc;cases hc
 have Zo:=vp hT;rw[hop] at Zo;have hfv:aM T1 x=some fv:=by
  rw[Zo x (by simp[Op.operands,Call.operands,hx])]
  rw[hx] at hc;exact hc
 have hva:bT T1 c.args.toList=some aa:=by
  rw[<-has];exact mc fun y hy=>Zo y (by simp[Op.operands,Call.operands,hx];exact .inr (by simpa using hy))
 have hu:=jX hfr hfv;have hus:=nM hfr hva;obtain ⟨d,hd1,hd2⟩:=hs (a.eval x) (c.args.toList.map a.eval) hu hus;have cC:(resolve a.eval c o.type).run E.P w= .ok d w:=by
  simp only[resolve,hx];have:c.args.map a.eval=(c.args.toList.map a.eval).toArray:=uR (by simp)
  rw[this];exact hd1
 have fin:∀e w',KE e w'->(match e,w' with
   | .returned v,w''=>K (a.put o.dst v) w''
   | .panicked chain,w''=>Q (.panic chain) a w''
   | .outgrown,_=>LetsOut Q):=by
  intro e w' he;obtain ⟨pan,r,rfl,h1,h2⟩:=hk e w' he;cases pan with
  |false=>exact h1 rfl
  |true=>exact h2 rfl
 unfold wpOpIn;rw[hi];simp only;rw[if_pos (rU hfr (by rw[oi hT];exact hw))]
 refine ⟨uU E.P w,?_⟩;rw[Oper.semAt_eq _ _ _ (fun c' h=>by rw[hop] at h;cases h)]
 have hex:(execOp a.eval o).run E.P w=(invoke d.target d.args).run E.P w:=by
  simp only[execOp,hop,Sem.run_bind,cC,Result.andThen_ok]
 rw[hex];rcases hd2 with ⟨k,as',h1,h2⟩|⟨l,k,tmps,as',bo,h1,h2⟩|⟨r,w',h1,h2⟩
 ·rw[h1];refine ⟨fun h=>by simp[fro] at h,?_⟩
  refine CallsIn.mono (F:=fro ro) (show CallsIn (fro ro) (m-1) E.P k as' w _ from h2) ?_;intro e w' he;have:=fin e w' he;cases e<;>exact this
 ·rw[h1];refine ⟨fun h=>by simp[fro] at h,?_⟩
  refine RoundIn.mono (F:=fro ro) (show RoundIn (fro ro) (m-1) E.P l k tmps as' bo w _ from h2) ?_;intro e w' he;have:=fin e w' he;cases e<;>exact this
 ·rw[h1];exact fin _ w' h2
theorem TW {ro:Option Nat} {nt:Nat} {all:Array Oper} {i:Nat} {o:Oper} {c:Call} {T:Tf} {H H':Hf} {fv v:SV} {aa:List SV} {nx nx':Nat} (hi:all[i]? =some o) (hw:cg all.toList o T=some true) (hd:cK nt o.dst=true)
  (hop:o.op= .call c) (hc:ig T c.callee=some fv) (has:bT T c.args.toList=some aa) (hs:kF E false fv aa H nx v H' nx') {D:Nat->Bool} (hD:∀x,D x=false->x<nx->H' x=H x) (hD2:∀x,D x=false->nx<=x->H' x=none):
  nG E ro nt all i o T (fun x=>H x≠none) H (fun x=>nx<=x) (fun x=>nx<=x/\x<nx') v D H':=by
 intro m g f T1 a w K Q hE hfr hr hT Ge eM hk;have qu:∀x y,H x=some y->f x=some y:=fun x y hx=>by rw[Ge x (by show H x≠none;rw[hx];simp),hx]
 have hr0:HR g H w:=hr.sub qu;refine Pd (g:=g) (H:=H) (nx:=nx) hi hw hop hc has hfr hT (fun u us hu hus=>hs (m-1) g w u us hE hr0 (fun y hy=>eM y hy) hu hus) ?_
 rintro e w' ⟨r,rfl,g',h1,h2,h3,h4,h5⟩;refine ⟨false,r,rfl,fun _=> ?_,fun h=>by cases h⟩
 obtain ⟨q1,q2⟩:=RF hr qu (fun y hy=>eM y hy) h2 h3 h4 hD hD2
 exact hk r w' g' ((hfr.mono h3.le).put hd h1) q1 q2 (fun x hx=>by
  by_cases hl:x<nx
  ·exact h4 x hl
  ·rw[h5 x (by omega),eM x (by show nx<=x;omega)])
end
end Go.Sim
end
