/- Texts that belong together. The first: Soundness: calls; the run. -/
import Derived.Test.YtmealahmjddpcaaGreatDoorP3
import Derived.RecoverIn
import Derived.ProofKit
import Derived.OpenShut
set_option linter.all false
noncomputable section
namespace Go.Sim
open Go.RowKit
section
variable {E:Env} {g:Gh} {f:Hf} {w:World}
theorem HR.grow (h:HR g f w) {w':World} (hsz:w.heap.size<=w'.heap.size) (hs:∀b,b<w.heap.size->w'.heap[b]? =w.heap[b]?):HR g f w':=
 ⟨fun id o ho=>let ⟨b,c,q1,q2,q3⟩:=h.ob id o ho;⟨b,c,q1,Nat.lt_of_lt_of_le q2 hsz,q3.mono (.refl _) q1 (hs b q2)⟩,h.inj⟩
theorem HR.drop (h:HR g f w) {d r c:Nat} {o:SO} {w':World} (hd:f d=some o) (hρ:g.ρ d=some (r,c)) (hsz:w'.heap.size=w.heap.size) (wh:∀k,k≠r->w'.heap[k]? =w.heap[k]?) (h1:w'.os=w.os) (h2:w'.tape=w.tape) (h3:w'.output=w.output):
  HR g (upF f (d,none)) w'/\Fr g f w g (upF f (d,none)) w':=by
 have key:∀k z,upF f (d,none) k=some z->k≠d/\f k=some z:=by
  intro k z hz;simp only[upF] at hz;split at hz
  ·simp at hz
  ·rename_i hk;exact ⟨hk,hz⟩
 refine ⟨⟨fun id x hx=> ?_,fun i j x y b c d hx hy e1 e2=>h.inj i j x y b c d (key i x hx).2 (key j y hy).2 e1 e2⟩,⟨h1,h2,h3,by omega,.refl _,fun b hb hn=>wh b (fun e=>hn (by subst e;exact ⟨d,o,c,hd,hρ⟩)),fun b hb ⟨j,x,c',hx,hj⟩=>⟨j,x,c',(key j x hx).2,hj⟩⟩⟩
 obtain ⟨hne,hx⟩:=key id x hx;obtain ⟨b,c',q1,q2,q3⟩:=h.ob id x hx;refine ⟨b,c',q1,by omega,q3.mono (.refl _) q1 (wh b (fun e=> ?_))⟩
 subst e;exact hne (h.inj id d x o b c' c hx hd q1 hρ)
def J4 (a:Act):ResultVar->Go.Sem Value
 | .tmp t=>pure (a.tmps.getD t undef)
 | .cell k t=>do loadVar t (<-asAddr (a.tmps.getD k undef))
theorem NO (hE:bC E g) (h:HR g f w) {nt:Nat} {T:Tf} {a:Act} (hfr:FR g nt T a.tmps) {rv:ResultVar} {x:SV} (hx:A2 E T f rv=some x):∃v,(J4 a rv).run E.P w= .ok v w/\VR g v x:=by
 cases rv with
 |tmp t=>exact ⟨_,rfl,hfr.tm t x hx⟩
 |cell k t=>
  obtain ⟨y,hy,hl⟩:=af (show aj (T k) (g8 E f t)=some x from hx);have hu:=hfr.tm k y hy;obtain ⟨v,hv,hvr⟩:=Bq hE h hu hl;obtain ⟨q,h1,_⟩:=af hl;obtain rfl:=iB h1;refine ⟨v,?_,hvr⟩;generalize hz:a.tmps.getD k undef=z at hu hv;cases hu with
  |ptr hρ=>
   simp only[Instr.loadAt,Instr.sureAddr,Sem.run_bind,Sem.run_pure,Result.andThen_ok] at hv;simp only[J4,hz,asAddr,Sem.run_bind,Sem.run_pure,Result.andThen_ok];exact hv
theorem vN (hE:bC E g) (h:HR g f w) {nt:Nat} {T:Tf} {a:Act} (hfr:FR g nt T a.tmps):∀{rvs:List ResultVar} {xs:List SV},jI E T f rvs=some xs->∃vs,(rvs.mapM (J4 a)).run E.P w= .ok vs w/\VRs g vs xs
 | [],xs,hx=>by cases hx;exact ⟨[],by simp,.nil⟩
 |rv::rvs,xs,hx=>by
  obtain ⟨x,l,h1,h2,hx⟩:=az (show aG (A2 E T f rv) (jI E T f rvs) (fun v l=>some (v::l))=some xs from hx)
  cases hx;obtain ⟨v,hv1,hv2⟩:=NO hE h hfr h1;obtain ⟨vs,hs1,hs2⟩:=vN hE h hfr h2;refine ⟨v::vs,?_,.cons hv2 hs2⟩;rw[List.mapM_cons];simp only[Sem.run_bind];rw[hv1];simp only[Result.andThen_ok];rw[hs1];simp
theorem J2 (hE:bC E g) (h:HR g f w) {fn:Func} {nt:Nat} {T:Tf} {a:Act} (hfr:FR g nt T a.tmps) {xs:List SV} (hx:jI E T f fn.results.toList=some xs):∃v,(results fn a.tmps).run E.P w= .ok v w/\VR g v (oneOf xs):=by
 obtain ⟨vs,h1,h2⟩:=vN hE h hfr hx;refine ⟨if h:vs.toArray.size=1 then vs.toArray[0] else .tuple vs.toArray,?_,?_⟩
 ·have e:∀f:ResultVar->Go.Sem Value,(∀x,f x=J4 a x)->fn.results.mapM f=fn.results.mapM (J4 a):=fun f hf=>by rw[funext hf]
  unfold results;rw[e _ (fun x=>by cases x<;>rfl)]
  rw[<-Array.toArray_toList (xs:=fn.results),List.mapM_toArray];simp only[Sem.run_bind,Sem.run_map];rw[h1];simp
 ·cases h2 with
  |nil=>exact .tup (by simpa using .nil)
  | @cons v x vs' xs' hv ht=>
   cases ht with
   |nil=>simpa[oneOf] using hv
   | @cons v2 x2 vs2 xs2 hv2 ht2=>
    have:¬(v::v2::vs2).toArray.size=1:=by simp
    rw[dif_neg this];exact .tup (by simpa using .cons hv (.cons hv2 ht2))
theorem rW:∀(vs:List SV) (i:Nat) (t:Tr SV) (j:Nat),(setArgs vs i t).get j=if i<=j/\j<i+vs.length then vs[j-i]? else t.get j
 | [],i,t,j=>by
  have:¬(i<=j/\j<i+([]:List SV).length):=by simp
  rw[if_neg this];rfl
 |v::vs,i,t,j=>by
  have e:setArgs (v::vs) i t=setArgs vs (i+1) (t.set i (some v)):=rfl;rw[e,rW vs (i+1) _ j,Tr.dv];by_cases h1:j=i
  ·subst h1;rw[if_neg (by omega),if_pos rfl,if_pos (by simp)]
   simp
  ·by_cases h2:i+1<=j/\j<i+1+vs.length
   ·rw[if_pos h2,if_pos (by simp;omega)]
    have:j-i=(j-(i+1))+1:=by omega
    rw[this,List.getElem?_cons_succ]
   ·rw[if_neg h2,if_neg h1,if_neg (by simp;omega)]
theorem FR.args {us:List Value} {aa:List SV} (h:VRs g us aa) {nt:Nat} (hn:aa.length<=nt):FR g nt (setArgs aa 0 .nil).get (us.toArray++Array.replicate (nt-us.toArray.size) undef):=by
 have hl:=h.length;refine ⟨by simp;omega,fun t x hx=> ?_⟩
 rw[rW] at hx;split at hx
 ·rename_i hc;obtain ⟨v,h1,h2⟩:=h.get hx;have hlt:t<us.length:=by omega
  have e:(us.toArray++Array.replicate (nt-us.toArray.size) undef).getD t undef=v:=by
   rw[Array.getD_eq_getD_getElem?,Array.getElem?_append_left (by simpa using hlt)]
   simp only[Nat.sub_zero] at h1;simp[h1]
  rw[e];exact h2
 ·cases hx
theorem sP {nt:Nat}:∀{ps:List Nat} {aa:List SV} {tm tm1:Tr SV} {tmps:Array Value} {us:List Value},nQ nt tm ps aa=some tm1->VRs g us aa->FR g nt tm.get tmps->us.length=ps.length/\FR g nt tm1.get ((ps.zip us).foldl (fun tmps p=>tmps.setIfInBounds p.1 p.2) tmps)
 | [],[],tm,tm1,tmps,us,h,hu,hfr=>by
  cases h;cases hu;exact ⟨rfl,hfr⟩
 |p::ps,v::aa,tm,tm1,tmps,us,h,hu,hfr=>by
  cases hu with
  | @cons u _ us' _ hv ht=>
   obtain ⟨hp,h⟩:=ar (show sel (Nat.ble (Nat.succ p) nt) (nQ nt (tm.set p (some v)) ps aa) none=some tm1 from h);have hp:p<tmps.size:=by rw[hfr.sz];exact (bk _ _).1 hp
   obtain ⟨q1,q2⟩:=sP (tmps:=tmps.setIfInBounds p u) h ht ⟨by simp[hfr.sz],fun t x hx=>by
    rw[Tr.dv] at hx;split at hx
    ·rename_i e;subst e;cases hx;have:(tmps.setIfInBounds t u).getD t undef=u:=by
      rw[Array.getD_eq_getD_getElem?,Array.getElem?_setIfInBounds_self_of_lt hp];rfl
     rw[this];exact hv
    ·rename_i e;have:(tmps.setIfInBounds p u).getD t undef=tmps.getD t undef:=by
      rw[Array.getD_eq_getD_getElem?,Array.getElem?_setIfInBounds_ne (fun e'=>e e'.symm),<-Array.getD_eq_getD_getElem?]
     rw[this];exact hfr.tm t x hx⟩
   exact ⟨by simp[q1],q2⟩
 | [],_::_,tm,tm1,tmps,us,h,_,_=>by cases h
 |_::_,[],tm,tm1,tmps,us,h,_,_=>by cases h
theorem Ri {s:LoopState} (h:isReady s=true):s= .ready:=by cases s<;>first|rfl|cases h
theorem N9 {e:Ex} (h:eL e=true):e= .normal:=by cases e<;>first|rfl|cases h
theorem Qy {nt nt1 nt3 l dd dd1 dd3:Nat} {tm0 tm1 tm2 tm3 Is zB:Tr SV} {ps ps1 ps3:List Nat} {aa bo as1 bo1 as3 bo3:Code} {gP xA abP:Option Code} {st st3:LoopState} {h h1 h3:Hs} {args:List SV} {e3:Ex} (hb:Bd h)
  (hl:h.hp.get l=some (.loop nt tm0 ps aa bo st gP dd)) (hp:nQ nt tm0 ps args=some tm1) (k1:dJ E nt aa tm1 [] h [⟨.normal,tm2,[],h1⟩]) (hl1:h1.hp.get l=some (.loop nt1 Is ps1 as1 bo1 .ready xA dd1))
  (k2:dJ E nt bo tm2 [] (h1.put l (.loop nt1 Is ps1 as1 bo1 .busy xA dd1)) [⟨e3,tm3,[],h3⟩]) (hnp:abT e3=true) (hl3:h3.hp.get l=some (.loop nt3 zB ps3 as3 bo3 st3 abP dd3)):
  Fac h (h3.put l (.loop nt3 zB ps3 as3 bo3 (sel (exJ e3).isNone .ready .done) (exJ e3) dd3))/\kF E false (.yld l) args h.hp.get h.nx (.bool (exJ e3).isNone) (h3.put l (.loop nt3 zB ps3 as3 bo3 (sel (exJ e3).isNone .ready .done) (exJ e3) dd3)).hp.get h3.nx:=by
 obtain ⟨_,f1,s1⟩:=k1;have f1:Fac h h1:=(f1 _ (List.mem_singleton.2 rfl)).1;have fp:=xy (o':=SO.loop nt1 Is ps1 as1 bo1 .busy xA dd1) f1.bd hl1;obtain ⟨_,f2,s2⟩:=k2;have f2:Fac _ h3:=(f2 _ (List.mem_singleton.2 rfl)).1;have f3:=xy (o':=SO.loop nt3 zB ps3 as3 bo3 (sel (exJ e3).isNone .ready .done) (exJ e3) dd3) f2.bd hl3;refine ⟨((f1.trans fp).trans f2).trans f3,fun m g w u us hE hr hnx hu hus=> ?_⟩
 cases hu with
 | @yld _ b o hρ=>
 obtain ⟨hlt,hor⟩:=hr.at hl hρ;obtain ⟨c1,c2,r,q1,q2,q3,q4,q5,q6,q7,o',q8⟩:=hor;obtain ⟨hlen,hfr⟩:=sP hp hus q7;subst q4;subst q5;subst q6;have hsz:us.toArray.size=r.params.size:=by simpa using hlen
 have htm:((r.params.zip us.toArray).foldl (fun tmps (t,a)=>tmps.setIfInBounds t a) r.tmps)=(r.params.toList.zip us).foldl (fun tmps p=>tmps.setIfInBounds p.1 p.2) r.tmps:=by
  rw[<-Array.foldl_toList,Array.toList_zip]
 refine ⟨{target:=.fn (.yield b) #[],args:= #[]++us.toArray},rfl,.inr (.inl ⟨b,r.fn,(r.params.zip us.toArray).foldl (fun tmps (t,a)=>tmps.setIfInBounds t a) r.tmps,r.assign,r.body,?_,?_⟩)⟩
 ·show (Instr.yield b (#[]++us.toArray)).run E.P w=_;rw[Array.empty_append];exact run_yield q1 hsz
 rw[htm];refine roundIn_of_wpIn (F:=Fence.wide) trivial (mb ?_);refine s1 (some b) m g {tmps:=_,defers:= []} w _ c1 (.inr fun o ho=>by obtain rfl:=List.mem_singleton.1 ho;rfl) hE hfr hr .nil hnx (fun o ho g1 a1 w1 x p0 p1 p2 p3 p4 p5 p6=> ?_)
 obtain rfl:=List.mem_singleton.1 ho;cases p0;obtain ⟨r1,t1,t2,t3,t4,t5⟩:=HR.loop p2 hl1 (p3.le.ρ _ _ hρ) .busy xA;subst t3;refine ⟨_,run_beginRound t1 t2,mb ?_⟩;rw[<-DB] at t4 t5;refine s2 (some b) m g1 a1 _ _ c2 (.inr fun o ho=>by obtain rfl:=List.mem_singleton.1 ho;rfl) (hE.mono p3.le) p1 t4 p4 p5 (fun o ho g2 a2 w2 x v0 v1 v2 v3 v4 v5 v6=> ?_)
 obtain rfl:=List.mem_singleton.1 ho;obtain ⟨r2,y1,y2,y3,y4,y5⟩:=HR.loop v2 hl3 (v3.le.ρ _ _ (p3.le.ρ _ _ hρ)) (sel (exJ e3).isNone .ready .done) (exJ e3);rw[<-DB] at y4 y5;have fin:∃v w',(Instr.endRound b (exJ e3)).run E.P w2= .ok v w'/\∃r',Ending.returned v=BU false r'/\∃g',VR g' r' (.bool (exJ e3).isNone)/\HR g' (h3.put l (.loop nt3 zB ps3 as3 bo3 (sel (exJ e3).isNone .ready .done) (exJ e3) dd3)).hp.get w'/\
   Fr g h.hp.get w g' (h3.put l (.loop nt3 zB ps3 as3 bo3 (sel (exJ e3).isNone .ready .done) (exJ e3) dd3)).hp.get w'/\(∀x,x<h.nx->g'.ρ x=g.ρ x)/\∀x,h3.nx<=x->g'.ρ x=none:=by
  refine ⟨_,_,run_endRound _ y1,_,rfl,g2,.bool _,?_,?_,fun x hx=> ?_,v5⟩
  ·rw[aC] at y4 ⊢;exact y4
  ·rw[aC] at y5 ⊢;exact ((p3.trans t5).trans v3).trans y5
  ·rw[v6 x (Nat.lt_of_lt_of_le hx f1.nx),p6 x hx]
 cases v0 with
 |normal=>exact fin
 |ret=>exact fin
 |exit id=>exact fin
 |pan hv=>cases hnp
theorem kF.calls {pan:Bool} {fv:SV} {aa:List SV} {H:Hf} {nx:Nat} {v:SV} {h':Hs} (h:kF E pan fv aa H nx v h'.hp.get h'.nx):lS E fv aa H nx [⟨pan,v,h'⟩]:=
 fun m g w u us hE hr hnx hu hus=>(h m g w u us hE hr hnx hu hus).mono fun e w' ⟨r,q1,g',q2,q3,q4,q5,q6⟩=>⟨_,List.mem_singleton.2 rfl,r,g',q1,q2,q3,q4,q5,q6⟩
theorem L5 {fv:SV} {aa:List SV} {h:Hs} {r:Rs} (h1:Bd h->Fac h r.h/\kF E r.pan fv aa h.hp.get h.nx r.v r.h.hp.get r.h.nx):Sound E (.call fv aa h) (.cI [r]):=by
 intro hb;obtain ⟨q1,q2⟩:=h1 hb;refine ⟨by simp,fun r' hr=> ?_,q2.calls⟩
 obtain rfl:=List.mem_singleton.1 hr;exact q1
theorem Ks {r:Out} {k:Ex->Tr SV->List Dm->Hs->Out} {Q:Out->Prop} (hf:∀s,Q (.fail s)) (ht:∀a b c,Q (.pS a b c)) (hr:∀e tm mk h,r= .code e tm mk h->Q (k e tm mk h)):Q (YD r k):=by
 cases r with
 |bq l=>
  cases l with
  |nil=>exact hf _
  |cons o l=>
   cases l with
   |nil=>exact hr o.e o.tm o.dm o.h rfl
   |cons _ _=>exact hf _
 |fail s=>exact hf _
 |pS a b c=>exact ht _ _ _
 |_=>exact hf _
theorem NH {rec:Job->Out} (dM:∀j,Sound E j (rec j)) (l:Nat) (aa:List SV) (h:Hs):Sound E (.call (.yld l) aa h) (Im rec l (h.hp.get l) aa h):=by
 unfold Im;split;rotate_left
 ·trivial
 rename_i nt tm0 ps as' bo st gP dd hl;rw[aC];split;rotate_left
 ·trivial
 unfold UH;split
 ·trivial
 rename_i tm1 hp;refine Ks (Q:=Sound E _) (fun _=>trivial) (fun _ _ _=>trivial) (fun e tm2 mk2 h1 he=> ?_)
 have hs1:=dM (.code nt as' tm1 [] h);rw[he] at hs1;rw[aC];split;rotate_left
 ·trivial
 rename_i hn;obtain rfl:=N9 hn;unfold adE;split;rotate_left
 ·trivial
 rename_i nt1 Is ps1 as1 bo1 st1 xA dd1 hl1;split;rotate_left
 ·trivial
 rw[aC];split;rotate_left
 ·trivial
 rename_i hrd;obtain rfl:=Ri hrd;unfold J1;refine Ks (Q:=Sound E _) (fun _=>trivial) (fun _ _ _=>trivial) (fun e3 tm3 mk3 h3 he3=> ?_)
 have hs2:=dM (.code nt bo tm2 [] (h1.put l (.loop nt1 Is ps1 as1 bo1 .busy xA dd1)));rw[he3] at hs2;split;rotate_left
 ·trivial
 rw[aC];split;rotate_left
 ·trivial
 rename_i hnp;unfold finK;split;rotate_left
 ·trivial
 rename_i nt3 zB ps3 as3 bo3 st3 abP dd3 hl3;refine L5 (fun hb=> ?_)
 have k1:=hs1 hb;exact Qy hb hl hp k1 hl1 (hs2 (xy (k1.2.1 _ (List.mem_singleton.2 rfl)).1.bd hl1).bd) hnp hl3
def SD (g:Gh) (u:Option SV) (um:FrameMode):Prop:=
 match u with
 |none=>um= .returning
 |some v=>∃x,um= .panicking [{v:=x,recovered:=false}]/\VR g x v
theorem SD.agd {u:Option SV} {um:FrameMode} (h:SD g u um):um≠ .run:=by
 cases u with
 |none=>rw[show um= .returning from h];simp
 |some v=>obtain ⟨x,h1,_⟩:=h;rw[h1];simp
end
section
variable {E:Env} {g:Gh} {f:Hf} {w:World}
theorem qm (hS:kR E) {rec:Job->Out} (dM:∀j,Sound E j (rec j)) {fn:Func} {tm:Tr SV}:∀(mk:List Dm) (u:Option SV) (h:Hs) (l:List Rs),kV E fn tm mk u h= .cI l->Bd h->l≠ []/\(∀r∈l,Fac h r.h)/\
  ∀(m nt:Nat) (g:Gh) (w:World) (a:Act) (ds:List Deferred) (um:FrameMode) (R:Ending->World->Prop),bC E g->FR g nt tm.get a.tmps->HR g h.hp.get w->Marks g mk ds->SD g u um->(∀x,h.nx<=x->g.ρ x=none)->
   (∀r∈l,∀e w',Ce g h.hp.get w h.nx r e w'->R e w')->LeavesInM Fence.wide m E.P fn a.tmps R ds um w
 | [],u,h,l,cC,hb=>by
  have cC:ZR E fn tm u h= .cI l:=cC;unfold ZR at cC;cases u with
  |some v=>
   cases (show Out.cI [⟨true,v,h⟩]= .cI l from cC);refine ⟨by simp,fun r hr=> ?_,fun m nt g w a ds um R hE hfr hr hmk hu hnx hk=> ?_⟩
   ·obtain rfl:=List.mem_singleton.1 hr;exact Fac.refl hb
   ·cases hmk;obtain ⟨x,rfl,hx⟩:=hu;exact hk _ (List.mem_singleton.2 rfl) _ _ ⟨x,g,rfl,hx,hr,Fr.refl _ _ _,fun _ _=>rfl,hnx⟩
  |none=>
   have cC: @Option.rec (List SV) (fun _=>Out) (.fail fn.name) (fun vs=>.res (oneOf vs) h) (jI E tm.get h.hp.get fn.results.toList)= .cI l:=cC
   cases hv:jI E tm.get h.hp.get fn.results.toList with
   |none=>rw[hv] at cC;cases cC
   |some vs=>
    rw[hv] at cC;cases (show Out.cI [⟨false,oneOf vs,h⟩]= .cI l from cC);refine ⟨by simp,fun r hr=> ?_,fun m nt g w a ds um R hE hfr hr hmk hu hnx hk=> ?_⟩
    ·obtain rfl:=List.mem_singleton.1 hr;exact Fac.refl hb
    ·cases hmk;have hu:um= .returning:=hu;subst hu;obtain ⟨v,hv1,hv2⟩:=J2 hE hr hfr hv;exact ⟨v,hv1,hk _ (List.mem_singleton.2 rfl) _ _ ⟨v,g,rfl,hv2,hr,Fr.refl _ _ _,fun _ _=>rfl,hnx⟩⟩
 | .mark d::mk,u,h,l,cC,hb=>by
  unfold kV at cC;split at cC;rotate_left
  ·cases cC
  rename_i hd;have hg:∀x,(⟨h.hp.set d none,h.nx,d::h.lg⟩:Hs).hp.get x=if x=d then none else h.hp.get x:=fun x=>Tr.dv _ _ _ _
  have hb1:Bd ⟨h.hp.set d none,h.nx,d::h.lg⟩:=fun x hx=>by
   rw[hg];split
   ·rfl
   ·exact hb x hx
  have f1:Fac h ⟨h.hp.set d none,h.nx,d::h.lg⟩:=by
   refine ⟨Nat.le_refl _,hb1,fun x hx hn=> ?_,fun x hx=>List.mem_cons_of_mem _ hx,fun x hx hn=> ?_⟩
   ·have hn:x∉d::h.lg:=hn;rw[hg,if_neg (fun e=>hn (by simp[e]))]
   ·rw[hg];split
    ·rfl
    ·exact hn
  obtain ⟨n1,q1,q2⟩:=qm hS dM mk u _ l cC hb1;refine ⟨n1,fun r hr=>f1.trans (q1 r hr),fun m nt g w a ds um R hE hfr hr hmk hu hnx hk=> ?_⟩
  cases hmk with
  | @mark _ _ r o ds' hρ ht=>
  obtain ⟨hlt,hor⟩:=hr.at hd hρ;have hor:w.heap[r]? =some (.deferred (some [])):=hor;refine ⟨hu.agd,.inl ⟨r,_,rfl,run_takeDeferred hor,?_⟩⟩;obtain ⟨s1,s2⟩:=HR.drop hr (w':=w.putObj r (.deferred none)) hd hρ (by simp) (fun k hk=>World.putObj_heap_other hk) rfl rfl rfl
  have e:(h.hp.set d none).get=upF h.hp.get (d,none):=funext fun x=>Tr.dv _ _ _ _
  rw[<-e] at s1 s2;refine q2 m nt g _ a _ um R hE hfr s1 ht hu hnx (fun r' hr' e' w' ⟨uu,g',p1,p2,p3,p4,p5,p6⟩=>hk r' hr' e' w' ⟨uu,g',p1,p2,p3,s2.trans p4,p5,p6⟩)
 | .fn _ _ _::_,_,_,_,cC,_=>by cases cC
end
section
variable {E:Env} {g:Gh} {f:Hf} {w:World}
structure Weak (a j:Rs):Prop where
 pan:j.pan=a.pan
 v:j.v=a.v
 sub:∀x z,j.h.hp.get x=some z->a.h.hp.get x=some z
 nx:a.h.nx<=j.h.nx
theorem Weak.post {a j:Rs} (h:Weak a j) {H:Hf} {nx:Nat} {e:Ending} {w':World} (hp:Ce g H w nx a e w'):Ce g H w nx j e w':=by
 obtain ⟨u,g',h1,h2,h3,h4,h5,h6⟩:=hp;refine ⟨u,g',by rw[h.pan];exact h1,by rw[h.v];exact h2,h3.sub h.sub,⟨h4.os,h4.tape,h4.output,h4.size,h4.le,h4.old,fun b hb ⟨id,o,c,q1,q2⟩=>h4.own b hb ⟨id,o,c,h.sub id o q1,q2⟩⟩,h5,fun x hx=>h6 x (Nat.le_trans h.nx hx)⟩
theorem BZ {nx:Nat} {lg:List Nat} {r:Out} {l:List Rs} (h:B0 nx lg r= .cI l):∃l',r= .cI l'/\(l'≠ [])/\(∀x∈l',(⟨x.pan,x.v,⟨x.h.hp,x.h.nx,below nx x.h.lg lg⟩⟩:Rs)∈l)/\∀y∈l,∃x∈l',y=⟨x.pan,x.v,⟨x.h.hp,x.h.nx,below nx x.h.lg lg⟩⟩:=by
 obtain ⟨l',h1,h2⟩:=UI h;obtain ⟨n1,q1,q2⟩:=wQ h2;have one:∀(x:Rs) r',sel x.pan (Out.pan x.v ⟨x.h.hp,x.h.nx,below nx x.h.lg lg⟩) (.res x.v ⟨x.h.hp,x.h.nx,below nx x.h.lg lg⟩)= .cI r'->r'= [⟨x.pan,x.v,⟨x.h.hp,x.h.nx,below nx x.h.lg lg⟩⟩]:=by
  intro x r' hx;cases hp:x.pan with
  |false=>rw[hp] at hx;cases hx;rfl
  |true=>rw[hp] at hx;cases hx;rfl
 refine ⟨l',h1,n1,fun x hx=> ?_,fun y hy=> ?_⟩
 ·obtain ⟨r',e1,e2⟩:=q1 x hx;rw[one x r' e1] at e2;exact e2 _ (by simp)
 ·obtain ⟨x,hx,r',e1,e2⟩:=q2 y hy;rw[one x r' e1] at e2;exact ⟨x,hx,List.mem_singleton.1 e2⟩
theorem Xa (hS:kR E) {rec:Job->Out} (dM:∀j,Sound E j (rec j)) {k:FuncId} {fn:Func} {c:Code} {fi aa ca:List SV} {h:Hs} (hfn:E.fn.get k=some fn) (iD:fn.body=some c) (Ln:fn.name≠ "runtime.NumGoroutine") (hlen:(fi++aa++ca).length<=fn.ntmps):
  Sound E (.call (.fn (.func k) fi ca) aa h) (vM E rec fn h.nx h.lg (rec (.code fn.ntmps c (setArgs (fi++aa++ca) 0 .nil) [] ⟨h.hp,h.nx,[]⟩))):=by
 cases cC:vM E rec fn h.nx h.lg (rec (.code fn.ntmps c (setArgs (fi++aa++ca) 0 .nil) [] ⟨h.hp,h.nx,[]⟩)) with
 |cI l=>
  intro hb;unfold vM at cC;obtain ⟨l1,h1,h2⟩:=NT cC;obtain ⟨_,q1,q2⟩:=wQ h2;have hs:=dM (.code fn.ntmps c (setArgs (fi++aa++ca) 0 .nil) [] ⟨h.hp,h.nx,[]⟩);rw[h1] at hs;obtain ⟨n1,f1,s1⟩:=hs hb;have way:∀o∈l1,∃u l2,Gr o.e=some u/\kV E fn o.tm o.dm u o.h= .cI l2/\l2≠ []/\∀x∈l2,(⟨x.pan,x.v,⟨x.h.hp,x.h.nx,below h.nx x.h.lg h.lg⟩⟩:Rs)∈l:=by
   intro o ho;obtain ⟨r',e1,e2⟩:=q1 o ho;cases hu:Gr o.e with
   |none=>rw[hu] at e1;cases e1
   |some u=>
    rw[hu] at e1;obtain ⟨l2,e3,e4,e5,_⟩:=BZ (show B0 h.nx h.lg (kV E fn o.tm o.dm u o.h)= .cI r' from e1);exact ⟨u,l2,rfl,e3,e4,fun x hx=>e2 _ (e5 x hx)⟩
  have back:∀y∈l,∃o∈l1,∃u l2,kV E fn o.tm o.dm u o.h= .cI l2/\∃x∈l2,y=⟨x.pan,x.v,⟨x.h.hp,x.h.nx,below h.nx x.h.lg h.lg⟩⟩:=by
   intro y hy;obtain ⟨o,ho,r',e1,e2⟩:=q2 y hy;cases hu:Gr o.e with
   |none=>rw[hu] at e1;cases e1
   |some u=>
    rw[hu] at e1;obtain ⟨l2,e3,e4,_,e5⟩:=BZ (show B0 h.nx h.lg (kV E fn o.tm o.dm u o.h)= .cI r' from e1);obtain ⟨x,hx,e6⟩:=e5 y e2;exact ⟨o,ho,u,l2,e3,x,hx,e6⟩
  refine ⟨?_,fun y hy=> ?_,fun m g w u us hE hr hnx hu hus=> ?_⟩
  ·obtain ⟨o,ho⟩:=List.exists_mem_of_ne_nil _ n1;obtain ⟨u,l2,_,_,e4,e5⟩:=way o ho;obtain ⟨x,hx⟩:=List.exists_mem_of_ne_nil _ e4;exact List.ne_nil_of_mem (e5 x hx)
  ·obtain ⟨o,ho,u,l2,e3,x,hx,rfl⟩:=back y hy;obtain ⟨_,f2,_⟩:=qm hS dM _ _ _ _ e3 (f1 o ho).1.bd;have f3:=(f1 o ho).1.trans (f2 x hx);refine ⟨f3.nx,f3.bd,fun z hz hn=>f3.lg z hz (fun hc=>hn (jl.2 (.inl ⟨hc,hz⟩))),fun z hz=>jl.2 (.inr hz),f3.dead⟩
  cases hu with
  | @fn _ first dE _ _ hv1 hv2=>
  obtain ⟨hPf,hok⟩:=hS.fn k fn hfn;have jT:VRs g (first.toList++us++dE.toList) (fi++aa++ca):=(hv1.append hus).append hv2
  have ng:first++us.toArray++dE=(first.toList++us++dE.toList).toArray:=by apply Array.ext';simp
  have hokc:codeOk c=true:=by
   have hok: @Option.rec Code (fun _=>Bool) true codeOk fn.body=true:=hok
   rw[iD] at hok;exact hok
  refine ⟨{target:=.fn (.func k) dE,args:=first++us.toArray},rfl,.inl ⟨k,first++us.toArray++dE,?_,?_⟩⟩
  ·show (callFunc k (first++us.toArray++dE)).run E.P w=_
   rcases iy hPf (by rw[iD];rfl) (first++us.toArray++dE) w with ⟨_,hc⟩|hc
   ·exact absurd hc Ln
   ·exact hc
  rw[ng];refine callsIn_of_wp_marks (F:=Fence.wide) hPf iD trivial (mb (F:=fro none) ?_);refine s1 none m g {tmps:=_,defers:= []} w _ hokc (.inl rfl) hE (FR.args jT hlen) hr .nil hnx (fun o ho g1 a1 w1 x p0 p1 p2 p3 p4 p5 p6=> ?_)
  obtain ⟨uu,l2,se,hlv,_,hin⟩:=way o ho;obtain ⟨_,f2,s2⟩:=qm hS dM _ _ _ _ hlv (f1 o ho).1.bd;have fin:∀um,SD g1 uu um->LeavesInM Fence.wide m E.P fn a1.tmps (fun e w'=>∃r∈l,Ce g h.hp.get w h.nx r e w') a1.defers um w1:=by
   intro um hum;refine s2 m _ g1 w1 a1 a1.defers um _ (hE.mono p3.le) p1 p2 p4 hum p5 (fun r hr e w' ⟨z,g',t1,t2,t3,t4,t5,t6⟩=> ?_)
   exact ⟨_,hin r hr,z,g',t1,t2,t3,p3.trans t4,fun y hy=>by rw[t5 y (Nat.lt_of_lt_of_le hy (f1 o ho).1.nx),p6 y hy],t6⟩
  generalize hoe:o.e=e at p0 se;cases p0 with
  |normal=>cases se;exact fin .returning rfl
  |ret=>cases se;exact fin .returning rfl
  |exit id=>cases se
  | @pan v z hv=>cases se;exact fin _ ⟨z,rfl,hv⟩
 |_=>trivial
theorem L4 {fv:SV} {aa:List SV} {h:Hs} {v:SV} {h':Hs} (h1:Bd h->Fac h h'/\kF E false fv aa h.hp.get h.nx v h'.hp.get h'.nx):Sound E (.call fv aa h) (.res v h'):=L5 (r:=⟨false,v,h'⟩) h1
theorem Qh {g:Gh} {h:Hs} {w w':World} (hr:HR g h.hp.get w) (hs:Mo w w'):HR g h.hp.get w'/\Fr g h.hp.get w g h.hp.get w':=
 ⟨hr.grow hs.size hs.heap,⟨hs.os,hs.tape,hs.output,hs.size,.refl _,fun b hb _=>hs.heap b hb,fun b hb hm=>hm⟩⟩
theorem Zz {P:Program} {k:FuncId} (h:GoFn P k) (args:Array Value) (w:World):(callFunc k args).run P w= .ok (.enter k args) w:=by
 obtain ⟨fn,h1,h2,h3⟩:=h;rcases iy h1 h2 args w with ⟨_,hc⟩|hc
 ·exact absurd hc h3
 ·exact hc
theorem LB {k:FuncId} {l:List SV} {v:SV} (h:iP E k l=some v):l= []:=by
 cases l with
 |nil=>rfl
 |cons a l=>cases h
theorem R7 (hS:kR E) {k:FuncId} {fi aa ca:List SV} {h:Hs} {v:SV} (hd:iP E k (fi++aa++ca)=some v):Sound E (.call (.fn (.func k) fi ca) aa h) (.res v h):=by
 refine L4 (fun hb=> ?_)
 have qw:=LB hd;obtain ⟨hfa,rfl⟩:=List.append_eq_nil_iff.1 qw;obtain ⟨rfl,rfl⟩:=List.append_eq_nil_iff.1 hfa;obtain ⟨hgo,h4⟩:=hS.done k v hd;refine ⟨Fac.refl hb,fun m g w u us hE hr hnx hu hus=> ?_⟩
 cases hu with
 | @fn _ first dE _ _ hv1 hv2=>
 have ef:first= #[]:=by
  generalize hz:first.toList=z at hv1
  cases hv1;simpa using hz
 have ec:dE= #[]:=by
  generalize hz:dE.toList=z at hv2;cases hv2;simpa using hz
 cases hus;subst ef;subst ec;refine ⟨{target:=.fn (.func k) #[],args:= #[]},rfl,.inl ⟨k,#[],Zz hgo #[] w,?_⟩⟩;refine CallsIn.mono (h4 m w) ?_;rintro e w' ⟨r,rfl,hv,hs⟩;obtain ⟨s1,s2⟩:=Qh hr hs;exact ⟨r,rfl,g,hv g,s1,s2,fun _ _=>rfl,hnx⟩
section
variable {τ:Nat->Nat} {D:Nat->Prop} [DecidablePred D] {S:List Nat}
end
structure Mp (τ:Nat->Nat) (g g':Gh):Prop where
 η:g'.η=g.η
 sz:g'.sz=g.sz
 ρ:∀id p,g.ρ id=some p->g'.ρ (τ id)=some p
 lim:∀id p,g.ρ id=some p->g'.lim (τ id)=g.lim id
 et:∀id p,g.ρ id=some p->g'.et (τ id)=g.et id
section
variable {τ:Nat->Nat}
mutual
theorem VR.push {g g':Gh} (hp:Mp τ g g'):∀{v x},VR g v x->VR g' v (J7 τ x)
 |_,_,.bool b=>.bool b
 |_,_,.int k e h=>.int k e (by rw[hp.η];exact h)
 |_,_,.str s=>.str s
 |_,_,.ptr h=>.ptr (hp.ρ _ _ h)
 |_,_,.cU=>.cU
 |_,_,.sl h hn hc hl=>.sl (hp.ρ _ _ h) hn hc (fun e he=>by rw[hp.sz,hp.et _ _ h,hp.lim _ _ h];exact hl e he)
 |_,_,.sle=>.sle
 |_,_,.aU=>.aU
 |_,_,.mp h=>.mp (hp.ρ _ _ h)
 |_,_,.cV=>.cV
 |_,_,.fn h1 h2=>.fn (h1.push hp) (h2.push hp)
 |_,_,.yld h=>.yld (hp.ρ _ _ h)
 |_,_,.dt=>.dt
 |_,_,.ifc h=>.ifc (h.push hp)
 |_,_,.cW=>.cW
 |_,_,.agg h=>.agg (h.push hp)
 |_,_,.tup h=>.tup (h.push hp)
 |_,_,.undef v=>.undef v
theorem VRs.push {g g':Gh} (hp:Mp τ g g'):∀{v x},VRs g v x->VRs g' v (qU τ x)
 |_,_,.nil=>.nil
 |_,_,.cons h ht=>.cons (h.push hp) (ht.push hp)
theorem VCs.push {g g':Gh} (hp:Mp τ g g'):∀{v x},VCs g v x->VCs g' v (qU τ x)
 |_,_,.nil=>.nil
 |_,_,.cons h1 h ht=>.cons h1 (h.push hp) (ht.push hp)
end
theorem eB.push {g g':Gh} (hp:Mp τ g g'):∀{ms:List MapEntry} {xs:List (SV×SV×Nat)},eB g ms xs->eB g' ms (QB τ xs)
 |_,_,.nil=>.nil
 |_,_,.cons h ht=>.cons ⟨h.1.push hp,h.2.1.push hp,h.2.2⟩ (ht.push hp)
theorem OR.push {g g':Gh} (hp:Mp τ g g') {w:World} {id b o:Nat} {x:SO} (hρ:g.ρ id=some (b,o)) (h:OR g w id b o x) (hx:afN x=true):OR g' w (τ id) b o (renO τ x):=by
 cases x with
 |cells e cs=>
  obtain ⟨⟨cur,h1,h0,vs,h2,h3⟩,h4⟩:=h;exact ⟨⟨cur,h1,by rw[hp.lim _ _ hρ];exact h0,vs,h2.push hp,h3⟩,(hp.et _ _ hρ).trans h4⟩
 |map es c=>obtain ⟨ms,h1,h2⟩:=h;exact ⟨ms,h1,h2.push hp⟩
 |ia s pos=>cases hx
 |mapIter mp since seen last=>cases hx
 |loop nt tm ps aa bo st pe dd=>cases hx
 |dfr=>cases hx
 |ro cs=>cases hx
end
theorem Fw (a b:ByteArray):Lib.compareBytes a.data.toList b.data.toList=qF a b:=by
 have key:∀(l m:List UInt8),Lib.compareBytes l m=if pP l m=true then -1 else if jG l m=true then 0 else 1:=by
  intro l;induction l with
  |nil=>intro m;cases m<;>simp[Lib.compareBytes,pP,jG]
  |cons x l ih=>
   intro m;cases m with
   |nil=>simp[Lib.compareBytes,pP,jG]
   |cons y m=>
    unfold Lib.compareBytes pP jG;rw[ih m,aC,aC,ble_eq,beq_eq];have h1:(x<y)↔x.toNat+1<=y.toNat:=by rw[UInt8.lt_iff_toNat_lt];omega
    have h2:(y<x)↔y.toNat<x.toNat:=UInt8.lt_iff_toNat_lt;by_cases hxy:x<y
    ·simp[hxy,h1.1 hxy]
    ·by_cases hyx:y<x
     ·have a1:¬(x.toNat+1<=y.toNat):=fun h=>hxy (h1.2 h)
      have a2:¬(x.toNat=y.toNat):=fun h=>by have:=h2.1 hyx;omega
      simp[hxy,hyx,a1,a2]
     ·have a1:¬(x.toNat+1<=y.toNat):=fun h=>hxy (h1.2 h)
      have a3:¬(y.toNat<x.toNat):=fun h=>hyx (h2.2 h)
      have a2:x.toNat=y.toNat:=by omega
      have a4:¬(y.toNat+1<=y.toNat):=by omega
      simp[hxy,hyx,a2,a4]
 rw[key];unfold qF;rw[aC,aC]
theorem Xd (hS:kR E) {k:FuncId} {fn:Func} {fi aa ca:List SV} {h:Hs} (hfn:E.fn.get k=some fn) (iD:fn.body=none):Sound E (.call (.fn (.func k) fi ca) aa h) (LD fn (fi++aa++ca) h):=by
 generalize hl:fi++aa++ca=l;unfold LD;split;rotate_left
 ·trivial
 rename_i x y;split;rotate_left
 ·trivial
 rename_i s1 hs1;split;rotate_left
 ·trivial
 rename_i s2 hs2;obtain rfl:=fc hs1;obtain rfl:=fc hs2;rw[aC];split;rotate_left
 ·trivial
 rename_i BL;refine L4 (fun hb=>⟨Fac.refl hb,fun m g w u us hE hr hnx hu hus=> ?_⟩)
 cases hu with
 | @fn _ first dE _ _ hv1 hv2=>
 have jT:VRs g (first.toList++us++dE.toList) [.str s1,.str s2]:=by rw[<-hl];exact (hv1.append hus).append hv2
 have ng:first++us.toArray++dE=(first.toList++us++dE.toList).toArray:=by apply Array.ext';simp
 obtain ⟨v1,v2,e,h1,h2⟩:=sy jT;rw[e] at ng;cases h1;cases h2;obtain ⟨e1,e2⟩:=hS.ext k fn hfn iD BL;refine ⟨{target:=.fn (.func k) dE,args:=first++us.toArray},rfl,.inr (.inr ⟨.int .i64 (Lib.compareBytes s1.data.toList s2.data.toList),w,?_,_,rfl,g,.int _ _ ?_,hr,Fr.refl _ _ _,fun _ _=>rfl,hnx⟩)⟩
 ·show (callFunc k (first++us.toArray++dE)).run E.P w=_
  rw[ng,run_callFunc_extern (hS.fn k fn hfn).1 (by
   have:fn.name= "internal/bytealg.abigen_runtime_cmpstring" :=by simpa using BL
   rw[this];decide) (by rw[iD];rfl) e1 e2,Lib.run_compareString]
  rfl
 ·rw[Fw];rfl
theorem AF (hS:kR E) {rec:Job->Out} (dM:∀j,Sound E j (rec j)) (fv:SV) (aa:List SV) (h:Hs):Sound E (.call fv aa h) (adD fv E rec aa h):=by
 cases fv with
 |yld l=>exact NH dM l aa h
 |fn f fi ca=>
  cases f with
  |func k=>
   show Sound E _ (@Option.rec SV (fun _=>Out) (wy E rec k (E.fn.get k) (fi++aa++ca) h) (fun v=>.res v h) (iP E k (fi++aa++ca)))
   cases hd:iP E k (fi++aa++ca) with
   |some v=>exact R7 hS hd
   |none=>
    show Sound E _ (wy E rec k (E.fn.get k) (fi++aa++ca) h);cases hfn:E.fn.get k with
    |none=>trivial
    |some fn=>
     show Sound E _ (L9 E rec k fn (fi++aa++ca) h);unfold L9;cases iD:fn.body with
     |none=>exact Xd hS hfn iD
     |some c=>
      show Sound E _ (sel (Nat.ble (fi++aa++ca).length fn.ntmps) (sel (qs fn.name) (.fail "NumGoroutine") (vM E rec fn h.nx h.lg (rec (.code fn.ntmps c (setArgs (fi++aa++ca) 0 .nil) [] ⟨h.hp,h.nx,[]⟩)))) (.fail "args"));rw[aC,aC];split;rotate_left
      ·trivial
      rename_i hlen;split
      ·trivial
      rename_i Ln;exact Xa hS dM hfn iD (fun hc=>Ln (by rw[hc];decide)) ((bk _ _).1 hlen)
  |_=>trivial
 |_=>trivial
theorem vD (hS:kR E):∀(n:Nat) (j:Job),Sound E j (run E n j)
 |0,j=>by cases j<;>trivial
 |n+1,j=>by
  have ih:=vD hS n;show Sound E j (step E (run E n) j);cases j with
  |code nt c tm mk h=>exact AE hS ih nt c tm mk h
  |ops nt all l tm mk h=>exact C3 ih nt all l tm mk h
  |draw nt W all base i M prev l tm h=>exact AD ih nt W all base i M prev l tm h
  |call fv aa h=>exact AF hS ih fv aa h
end
section
variable {E:Env} {g:Gh} {f:Hf} {w:World}
theorem ZS (g:Gh) (w:World):HR g (Tr.nil:Hp).get w:=⟨fun id o h=>(by cases h),fun i j x y b c d h=>(by cases h)⟩
theorem UF (hS:kR E) {n:Nat} {k:FuncId} {aa:List SV} {v:SV} {h':Hs} (fj:run E n (.call (.fn (.func k) [] []) aa ⟨.nil,0,[]⟩)= .res v h') (hgo:ur E (.fn (.func k) [] [])=true) (hE:bC E g) (hρ:∀x,g.ρ x=none)
  {us:List Value} (hus:VRs g us aa) (m:Nat) (w:World):CallsIn Fence.wide m E.P k us.toArray w fun e w'=>∃r g',e= .returned r/\VR g' r v/\HR g' h'.hp.get w'/\Fr g (fun _=>none) w g' h'.hp.get w':=by
 have hs:=vD hS n (.call (.fn (.func k) [] []) aa ⟨.nil,0,[]⟩);rw[fj] at hs;have hb:Bd ⟨.nil,0,[]⟩:=fun x _=>rfl
 obtain ⟨_,_,sem⟩:=(show Bd ⟨.nil,0,[]⟩->_ from hs) hb;obtain ⟨k',fi,ca,fn,e1,hfn,iD⟩:=rA hgo;cases e1;obtain ⟨d,hd1,hd2⟩:=sem.one m g w (.func (.func k) #[] #[]) us hE (ZS g w) (fun x _=>hρ x) (.fn .nil .nil) hus
 have hd:d={target:=.fn (.func k) #[],args:= #[]++us.toArray}:=by
  rw[qj] at hd1;cases hd1;rfl
 subst hd;have oV:∀(args:Array Value) (w:World),(invoke (.fn (.func k) #[]) args).run E.P w=(callFunc k (args++ #[])).run E.P w:=fun _ _=>rfl
 rcases iy (hS.fn k fn hfn).1 iD (#[]++us.toArray++ #[]) w with ⟨hc,_⟩|hc
 ·rcases hd2 with ⟨k',as',q1,q2⟩|⟨l,k',t',as',b',q1,_⟩|⟨r,w',q1,_⟩<;>(rw[oV,hc] at q1;cases q1)
 ·rcases hd2 with ⟨k',as',q1,q2⟩|⟨l,k',t',as',b',q1,_⟩|⟨r,w',q1,_⟩
  ·rw[oV,hc] at q1;cases q1;have e: #[]++us.toArray++ #[]=us.toArray:=by simp
   rw[e] at q2;refine CallsIn.mono q2 ?_;rintro e w' ⟨r,rfl,g',h1,h2,h3,_,_⟩;exact ⟨r,g',rfl,h1,h2,h3⟩
  ·rw[oV,hc] at q1;cases q1
  ·rw[oV,hc] at q1;cases q1
def gh0 (P:Program) (η:Nat->Int):Gh:=⟨η,P.cellsOf,fun _=>none,fun _=>0,fun _=>0,fun _=>none⟩
theorem Fr.old0 {g g':Gh} {h':Hf} {w w':World} (h:Fr g (fun _=>none) w g' h' w'):∀b,b<w.heap.size->w'.heap[b]? =w.heap[b]? :=
 fun b hb=>h.old b hb (fun ⟨id,o,c,h1,_⟩=>by cases h1)
theorem Fr.still {g g':Gh} {h':Hf} {w w':World} (h:Fr g (fun _=>none) w g' h' w'):Mo w w':=⟨h.os,h.tape,h.output,h.size,h.old0⟩
theorem aeS (hS:kR E) (hE:bC E (gh0 E.P fun _=>0)) {n:Nat} {k:FuncId} {b:Bool} {h':Hs} (fj:run E n (.call (.fn (.func k) [] []) [] ⟨.nil,0,[]⟩)= .res (.bool b) h') (hgo:ur E (.fn (.func k) [] [])=true) (Ln:∀fn,E.fn.get k=some fn->qs fn.name=false):Ch E.P k (.bool b):=by
 obtain ⟨k',fi,ca,fn,e1,hfn,iD⟩:=rA hgo;cases e1;refine ⟨⟨fn,(hS.fn k fn hfn).1,iD,fun hc=>by have:=Ln fn hfn;rw[hc] at this;revert this;decide⟩,fun m w=> ?_⟩
 refine CallsIn.mono (UF hS fj hgo hE (fun _=>rfl) .nil m w) ?_
 rintro e w' ⟨r,g',rfl,h1,h2,h3⟩;refine ⟨r,rfl,fun g=> ?_,h3.still⟩
 cases h1;exact .bool b
def jA {α:Type} (Q:Nat->α->Prop):Tr α->(Nat->Nat)->Prop
 | .nil,_=>True
 | .node l v r,φ=>(match v with|none=>True|some x=>Q (φ 0) x)/\jA Q l (fun j=>φ (2*j+1))/\jA Q r (fun j=>φ (2*j+2))
theorem jA.get {α:Type} {Q:Nat->α->Prop}:∀{t:Tr α} {φ:Nat->Nat},jA Q t φ->∀i x,t.get i=some x->Q (φ i) x
 | .nil,_,_,i,x,h=>by cases h
 | .node l v r,φ,⟨h1,h2,h3⟩,i,x,h=>by
  rw[Tr.qz] at h;split at h
  ·rename_i e;subst e;subst h;exact h1
  ·split at h
   ·rename_i e1 e2;have:=jA.get h2 _ x h;have e:2*(i / 2)+1=i:=by omega
    simp only[e] at this;exact this
   ·rename_i e1 e2;have:=jA.get h3 _ x h;have e:2*(i / 2-1)+2=i:=by omega
    simp only[e] at this;exact this
def C0:TypeDesc->UD
 | .bool=>.bool
 | .int k=>.int k
 | .string=>.string
 | .pointer _=>.pointer
 | .slice e=>.slice e
 | .array n e=>.array n e
 | .map k e=>.map k e
 | .struct fs=>.struct (fs.toList.map fun f=>FL.mk f.type f.offset (!(f.name== "_")))
 | .func _ _ _=>.func
 | .interface _=>.interface
 |_=>.other
def BC (P:Program):List Field->Bool
 | []=>true
 |f::fs=>(P.info? f.type).isSome&&BC P fs
def aiN (P:Program):TypeDesc->Bool
 | .struct fs=>BC P fs.toList
 | .bool| .int _| .string| .pointer _| .slice _| .array _ _| .map _ _| .func _ _ _| .interface _=>true
 |_=>false
def Cb:List Value->Bool
 | []=>true
 |v::vs=>v.oneCell'&&Cb vs
def KV:Value->Bool
 | .agg _=>true
 |_=>false
def aau (agg:Bool) (size:Nat) (z:Value):Bool:=Cb z.cells.toList&&sel agg (KV z&&Nat.beq z.cells.toList.length size) z.oneCell'
def Qe (P:Program) (t:TypeId):Option TI:=
 aG (P.underlying t) (P.info? t) fun d f=>aj f.zero fun z=>sel (aiN P d&&aau (eG (C0 d)) f.size z) (some ⟨C0 d,f.size,f.bytes,g4 z.cells.toList,f.comparable⟩) none
theorem zl {P:Program}:∀{fs:List Field},BC P fs=true->∀f∈fs,(P.info? f.type).isSome=true
 | [],_,f,hf=>by simp at hf
 |x::fs,h,f,hf=>by
  unfold BC at h;rw[Bool.and_eq_true] at h;rcases List.mem_cons.1 hf with rfl|hf
  ·exact h.1
  ·exact zl h.2 f hf
theorem Ca (g:Gh):∀{vs:List Value},Cb vs=true->VCs g vs (g4 vs)
 | [],_=>.nil
 |v::vs,h=>by
  unfold Cb at h;rw[Bool.and_eq_true] at h;exact .cons h.1 (mC g v) (Ca g h.2)
theorem rG:∀(vs:List Value),(g4 vs).length=vs.length
 | []=>rfl
 |v::vs=>by show (kB v::g4 vs).length=_;simp[rG vs]
theorem TU {P : Program} {t : TypeId} {i : TI} (h : Qe P t = some i) : qJ P t i := by
  obtain ⟨d, fi, hd, hf, h⟩ := az h
  obtain ⟨z, hz, h⟩ := af h
  obtain ⟨hc, h⟩ := ar h
  cases h
  rw [Bool.and_eq_true] at hc
  obtain ⟨hdb, hzb⟩ := hc
  unfold aau at hzb
  rw [Bool.and_eq_true] at hzb
  obtain ⟨ha, hzb⟩ := hzb
  refine ⟨?_, fi, z, hf, rfl, rfl, rfl, hz, ⟨fun g => Ca g ha, fun qy => ?_, fun qy => ?_⟩, fun qy => ?_⟩
  · show qO P t (C0 d)
    cases d <;> first
      | exact hd
      | exact ⟨_, hd⟩
      | exact ⟨_, _, _, hd⟩
      | (refine ⟨_, hd, ?_, zl hdb⟩
         refine List.map_congr_left fun f _ => ?_
         by_cases hn : f.name = "_" <;> simp [hn])
      | (cases hdb; done)
  · have qy : eG (C0 d) = true := qy
    rw [qy] at hzb
    have hzb : (KV z && Nat.beq z.cells.toList.length fi.size) = true := hzb
    rw [Bool.and_eq_true] at hzb
    cases z <;> first | exact ⟨_, rfl⟩ | (cases hzb.1; done)
  · have qy : eG (C0 d) = false := qy
    rw [qy] at hzb
    exact hzb
  · have qy : eG (C0 d) = true := qy
    rw [qy] at hzb
    have hzb : (KV z && Nat.beq z.cells.toList.length fi.size) = true := hzb
    rw [Bool.and_eq_true] at hzb
    show (g4 z.cells.toList).length = fi.size
    rw [rG]
    exact (beq_iff _ _).1 hzb.2
end
end Go.Sim
namespace Go.Sim
section
def vP (fn:Func):Bool:=fn.body.isSome|| !(fn.name== "internal/bytealg.abigen_runtime_cmpstring")
def amn (P:Program) (k:Nat) (fn:Func):Prop:=P.funcs[k]? =some fn/\RE fn=true/\(vP fn=true\/(Extern.findNext fn=none/\Extern.find fn=some Extern.BytealgCompare.compare))
def aml (P:Program) (t:Nat) (i:TI):Prop:=Qe P t=some i
structure yd (P:Program) (ty:Tr TI) (fn:Tr Func):Prop where
 ty:jA (aml P) ty id
 fn:jA (amn P) fn id
 mix:P.follows .mixedOrders=true
variable {P:Program} {ty:Tr TI} {fn:Tr Func}
theorem yd.envS (h:yd P ty fn) {lt eq:List (SI×SI×Bool)} {done:List (Nat×SV)} {join:List Nat} {Qc:List (Nat×Nat)} {DM:List Nat} {stop:List Nat} (hd:∀k v,rB k done=some v->Ch P k v):kR ⟨P,ty,fn,lt,eq,done,join,Qc,DM,stop⟩:=by
 refine ⟨fun k fn hk=> ?_,fun k fn hk hb hn=> ?_,h.mix,fun k v hk=>hd k v hk⟩
 ·obtain ⟨h1,h2,_⟩:=jA.get h.fn k fn hk;exact ⟨h1,h2⟩
 ·obtain ⟨_,_,h3⟩:=jA.get h.fn k fn hk;rcases h3 with h3|h3
  ·unfold vP at h3;rw[hb,hn] at h3;cases h3
  ·exact h3
theorem yd.adw (h:yd P ty fn) {lt eq:List (SI×SI×Bool)} {done:List (Nat×SV)} {join:List Nat} {Qc:List (Nat×Nat)} {DM:List Nat} {stop:List Nat} {η:Nat->Int} (hlt:∀a b r,(a,b,r)∈lt->decide (a.ev η<b.ev η)=r) (heq:∀a b r,(a,b,r)∈eq->decide (a.ev η=b.ev η)=r):
  bC ⟨P,ty,fn,lt,eq,done,join,Qc,DM,stop⟩ (gh0 P η):=
 ⟨fun t i hi=>TU (jA.get h.ty t i hi),fun f x hx=>(jA.get h.fn f x hx).1,hlt,heq,h.mix,fun _=>rfl⟩
def Ym (o:Out):Option Bool:=match o with| .cI [⟨false,.bool b,_⟩]=>some b|_=>none
theorem UJ {o:Out} {b:Bool} (h:Ym o=some b):∃h',o= .res (.bool b) h':=by
 unfold Ym at h;split at h
 ·cases h;exact ⟨_,rfl⟩
 ·cases h
def why (o:Out):String:=match o with| .cI [⟨false,.bool b,_⟩]=>(match b with|true=> "true" |false=> "false")| .cI [_]=> "res" | .cI _=> "ress" | .fail s=>s|_=> "other"
end
end Go.Sim
namespace Go.Sim
open Go.RowKit
structure Still (w w':World):Prop where
 os:w'.os=w.os
 output:w'.output=w.output
 heap:∀b,b<w.heap.size->w'.heap[b]? =w.heap[b]?
theorem Still.kept {w w':World} (h:Still w w') (may:MemPlace->Prop):w.keptBut w' may:=by
 refine ⟨h.os,h.output,fun i hi=> ?_⟩
 rw[h.heap i hi];cases hc:w.heap[i]? with
 |none=>rfl
 |some o=>cases o<;>first|exact ⟨rfl,rfl,rfl,fun _ _=>rfl⟩|exact .inr ⟨rfl,rfl⟩|rfl
end Go.Sim
namespace Go.Sim
def alt {α:Type} (l:List α):Bool->List α:= @List.rec α (fun _=>Bool->List α) (fun _=> []) (fun x _ ih b=>sel b (x::ih false) (ih true)) l
def Iq {α:Type} (d:Nat):List (Option α)->Tr α:= @Nat.rec (fun _=>List (Option α)->Tr α) (fun _=>.nil) (fun _ ih l=> @List.rec (Option α) (fun _=>Tr α) .nil (fun x xs _=>.node (ih (alt xs true)) x (ih (alt xs false))) l) d
theorem ya {α:Type}:∀(l:List α) (j:Nat),(alt l true)[j]? =l[2*j]? /\(alt l false)[j]? =l[2*j+1]?
 | [],j=>⟨by simp[alt],by simp[alt]⟩
 |x::l,j=>by
  have h1:alt (x::l) true=x::alt l false:=rfl;have h2:alt (x::l) false=alt l true:=rfl;rw[h1,h2];constructor
  ·cases j with
   |zero=>rfl
   |succ j=>rw[List.getElem?_cons_succ,(ya l j).2,show 2*(j+1)=(2*j+1)+1 by omega,List.getElem?_cons_succ]
  ·rw[(ya l j).1,List.getElem?_cons_succ]
theorem tL {α:Type} {Q:Nat->α->Prop}:∀(d:Nat) (l:List (Option α)) (φ:Nat->Nat),(∀i x,l[i]? =some (some x)->Q (φ i) x)->jA Q (Iq d l) φ
 |0,_,_,_=>trivial
 |d+1,[],_,_=>trivial
 |d+1,x::xs,φ,H=>by
  show jA Q (.node (Iq d (alt xs true)) x (Iq d (alt xs false))) φ;unfold jA;refine ⟨?_,tL d _ _ fun i y h=> ?_,tL d _ _ fun i y h=> ?_⟩
  ·cases x with
   |none=>trivial
   |some x=>exact H 0 x rfl
  ·rw[(ya xs i).1] at h;exact H (2*i+1) y (by rw[List.getElem?_cons_succ];exact h)
  ·rw[(ya xs i).2] at h;exact H (2*i+2) y (by rw[show 2*i+2=(2*i+1)+1 from rfl,List.getElem?_cons_succ];exact h)
def aav (P:Program) (n:Nat):Tr TI:=Iq 10 ((List.range n).map (Qe P))
def ads (P:Program):Tr Func:=Iq 10 (P.funcs.toList.map some)
def ahv (e:Nat) (l:List Bool):Bool:= @List.rec Bool (fun _=>Nat->Bool) (fun _=>true) (fun b _ ih k=>sel (b||Nat.beq k e) (ih (k+1)) false) l 0
theorem Cc {e:Nat}:∀(l:List Bool) (k i:Nat),(@List.rec Bool (fun _=>Nat->Bool) (fun _=>true) (fun b _ ih k=>sel (b||Nat.beq k e) (ih (k+1)) false) l k)=true->l[i]? =some false->k+i=e
 | [],k,i,_,h=>by simp at h
 |b::l,k,i,h,hi=>by
  have h:sel (b||Nat.beq k e) (@List.rec Bool (fun _=>Nat->Bool) (fun _=>true) (fun b _ ih k=>sel (b||Nat.beq k e) (ih (k+1)) false) l (k+1)) false=true:=h
  cases i with
  |zero=>
   have:b=false:=by simpa using hi
   subst this;cases hk:Nat.beq k e with
   |true=>exact Nat.eq_of_beq_eq_true hk
   |false=>rw[hk] at h;cases h
  |succ i=>
   cases hb:(b||Nat.beq k e) with
   |false=>rw[hb] at h;cases h
   |true=>
    rw[hb] at h;have:=Cc l (k+1) i h (by simpa using hi)
    omega
theorem afq {P:Program} (n e:Nat) {fe:Func} (h0:(P.funcs.toList.all fun f=>RE f)=true) (h1:ahv e (P.funcs.toList.map vP)=true) (he:P.funcs[e]? =some fe) (h2:Extern.findNext fe=none) (h3:Extern.find fe=some Extern.BytealgCompare.compare) (hm:P.follows .mixedOrders=true):yd P (aav P n) (ads P):=by
 refine ⟨tL _ _ _ fun i x h=> ?_,tL _ _ _ fun i x h=> ?_,hm⟩
 ·rw[List.getElem?_map] at h;cases hr:(List.range n)[i]? with
  |none=>rw[hr] at h;cases h
  |some j=>
   rw[hr] at h;have hj:Qe P j=some x:=by simpa using h
   have:=List.getElem?_eq_some_iff.1 hr;obtain ⟨h1,h2⟩:=this;have e:i=j:=by simpa using h2
   subst e;exact hj
 ·rw[List.getElem?_map] at h;cases hr:P.funcs.toList[i]? with
  |none=>rw[hr] at h;cases h
  |some f=>
   rw[hr] at h;have hf:f=x:=by simpa using h
   subst hf;have hm:f∈P.funcs.toList:=List.mem_of_getElem? hr;have hp:P.funcs[i]? =some f:=by simpa using hr
   refine ⟨hp,List.all_eq_true.1 h0 f hm,?_⟩;cases hb:vP f with
   |true=>exact .inl rfl
   |false=>
    have:=Cc (e:=e) (P.funcs.toList.map vP) 0 i h1 (by rw[List.getElem?_map,hr];simp[hb])
    have ei:i=e:=by omega
    subst ei;rw[hp] at he;cases he;exact .inr ⟨h2,h3⟩
section
def bw (E:Env) (j:Job) (o:Out):Prop:=∃n0,∀n,n0<=n->run E n j=o
variable {E:Env} {nt:Nat} {tm tm1 tm2:Tr SV} {h h1 h2:Hs} {o:Out}
theorem bw.step {j:Job} (hs:∃n0,∀n,n0<=n->step E (run E n) j=o):bw E j o:=by
 obtain ⟨n0,hs⟩:=hs;refine ⟨n0+1,fun n hn=> ?_⟩
 obtain ⟨m,rfl⟩:∃m,n=m+1:=⟨n-1,by omega⟩
 exact hs m (by omega)
theorem bw.skip:bw E (.code nt .skip tm [] h) (.code .normal tm [] h):=.step ⟨0,fun _ _=>rfl⟩
theorem bw.exit {id:Nat}:bw E (.code nt (.exit id) tm [] h) (.code (.exit id) tm [] h):=.step ⟨0,fun _ _=>rfl⟩
theorem bw.ret:bw E (.code nt .ret tm [] h) (.code .ret tm [] h):=.step ⟨0,fun _ _=>rfl⟩
theorem bw.seq {a b:Code} (ha:bw E (.code nt a tm [] h) (.code .normal tm1 [] h1)) (hb:bw E (.code nt b tm1 [] h1) o):bw E (.code nt (.seq a b) tm [] h) o:=by
 obtain ⟨n1,e1⟩:=ha;obtain ⟨n2,e2⟩:=hb;refine .step ⟨n1+n2,fun n hn=> ?_⟩
 show rX (run E n (.code nt a tm [] h)) (fun tm' mk' h'=>run E n (.code nt b tm' mk' h'))=o
 rw[e1 n (by omega)]
 exact e2 n (by omega)
theorem bw.afH {a b:Code} {e:Ex} (he:eL e=false) (ha:bw E (.code nt a tm [] h) (.code e tm1 [] h1)):bw E (.code nt (.seq a b) tm [] h) (.code e tm1 [] h1):=by
 obtain ⟨n1,e1⟩:=ha;refine .step ⟨n1,fun n hn=> ?_⟩
 show rX (run E n (.code nt a tm [] h)) (fun tm' mk' h'=>run E n (.code nt b tm' mk' h'))=_
 rw[e1 n hn];cases e<;>first|rfl|(cases he;done)
theorem bw.Sb {c:Operand} {a b:Code} (hc:aM tm.get c=some (.bool true)) (ha:bw E (.code nt a tm [] h) o):bw E (.code nt (.cond c a b) tm [] h) o:=by
 obtain ⟨n1,e1⟩:=ha;refine .step ⟨n1,fun n hn=> ?_⟩
 show B2 (aM tm.get c) (run E n (.code nt a tm [] h)) (run E n (.code nt b tm [] h))=o;rw[hc];exact e1 n hn
theorem bw.Sd {c:Operand} {a b:Code} (hc:aM tm.get c=some (.bool false)) (hb:bw E (.code nt b tm [] h) o):bw E (.code nt (.cond c a b) tm [] h) o:=by
 obtain ⟨n1,e1⟩:=hb;refine .step ⟨n1,fun n hn=> ?_⟩
 show B2 (aM tm.get c) (run E n (.code nt a tm [] h)) (run E n (.code nt b tm [] h))=o;rw[hc];exact e1 n hn
theorem bw.block {id:Nat} {c:Code} {e:Ex} (ha:bw E (.code nt c tm [] h) (.code e tm1 [] h1)):bw E (.code nt (.block id c) tm [] h) (.code (leave id e) tm1 [] h1):=by
 obtain ⟨n1,e1⟩:=ha;refine .step ⟨n1,fun n hn=> ?_⟩
 show B7 id (run E n (.code nt c tm [] h))=_;rw[e1 n hn];rfl
theorem bw.loop {c:Code} (ha:bw E (.code nt c tm [] h) (.code .normal tm1 [] h1)) (hb:bw E (.code nt (.loop c) tm1 [] h1) o):bw E (.code nt (.loop c) tm [] h) o:=by
 obtain ⟨n1,e1⟩:=ha;obtain ⟨n2,e2⟩:=hb;refine .step ⟨n1+n2,fun n hn=> ?_⟩
 show rX (run E n (.code nt c tm [] h)) (fun tm' mk' h'=>run E n (.code nt (.loop c) tm' mk' h'))=o
 rw[e1 n (by omega)]
 exact e2 n (by omega)
theorem bw.aeD {c:Code} {e:Ex} (he:eL e=false) (ha:bw E (.code nt c tm [] h) (.code e tm1 [] h1)):bw E (.code nt (.loop c) tm [] h) (.code e tm1 [] h1):=by
 obtain ⟨n1,e1⟩:=ha;refine .step ⟨n1,fun n hn=> ?_⟩
 show rX (run E n (.code nt c tm [] h)) (fun tm' mk' h'=>run E n (.code nt (.loop c) tm' mk' h'))=_
 rw[e1 n hn];cases e<;>first|rfl|(cases he;done)
theorem bw.region {id:Nat} {ops:Array Oper} (ha:bw E (.ops nt ops.toList ops.toList tm [] h) o):bw E (.code nt (.region id ops false) tm [] h) o:=by
 obtain ⟨n1,e1⟩:=ha;exact .step ⟨n1,fun n hn=>e1 n hn⟩
theorem bw.drawn {id:Nat} {ops:Array Oper} (ha:bw E (.draw nt ops.size ops.toList h.nx 0 0 [] ops.toList tm ⟨h.hp,Nat.add h.nx ops.size,h.lg⟩) (.st tm1 h1)):bw E (.code nt (.region id ops true) tm [] h) (.code .normal tm1 [] h1):=by
 obtain ⟨n1,e1⟩:=ha;refine .step ⟨n1,fun n hn=> ?_⟩
 show stK (run E n (.draw nt ops.size ops.toList h.nx 0 0 [] ops.toList tm ⟨h.hp,Nat.add h.nx ops.size,h.lg⟩)) (fun tm' h'=>.code .normal tm' [] h')= .code .normal tm1 [] h1
 rw[e1 n hn];rfl
theorem bw.afT {all:List Oper}:bw E (.ops nt all [] tm [] h) (.code .normal tm [] h):=.step ⟨0,fun _ _=>rfl⟩
theorem bw.afS {all l:List Oper} {p:Oper} {v:SV} {us:List Up} (hd:cK nt p.dst=true) (hw:cg all p tm.get=some true) (hc:dB p.op=none) (hdf:xP p.op=none) (hp:xB p.op=none) (hn:Bk p.op=none)
  (hv:opA E p.op tm.get h.hp.get h.nx=some (v,us)) (ha:bw E (.ops nt all l (bB tm p.dst v) [] (h.fin us)) o):bw E (.ops nt all (p::l) tm [] h) o:=by
 obtain ⟨n1,e1⟩:=ha;refine .step ⟨n1,fun n hn'=> ?_⟩
 show sel (cK nt p.dst) (xm E (run E n) nt all l tm [] h p (cg all p tm.get)) (.fail "slot")=o;rw[hd,hw];show doK E (run E n) nt all l tm [] h p (dB p.op)=o;rw[hc];show P3 (run E n) nt all l tm [] h p (opA E p.op tm.get h.hp.get h.nx)=o;rw[hv];exact e1 n hn'
theorem bw.aeu {all l:List Oper} {p:Oper} (hd:cK nt p.dst=true) (hw:cg all p tm.get=some false) (ha:bw E (.ops nt all l (bB tm p.dst (.tup [])) [] h) o):bw E (.ops nt all (p::l) tm [] h) o:=by
 obtain ⟨n1,e1⟩:=ha;refine .step ⟨n1,fun n hn'=> ?_⟩
 show sel (cK nt p.dst) (xm E (run E n) nt all l tm [] h p (cg all p tm.get)) (.fail "slot")=o;rw[hd,hw];exact e1 n hn'
theorem bw.aev {all l:List Oper} {p:Oper} {c:Call} {f:SV} {aa:List SV} {v:SV} (hd:cK nt p.dst=true) (hw:cg all p tm.get=some true) (hc:dB p.op=some c) (hf:ig tm.get c.callee=some f) (has:bT tm.get c.args.toList=some aa)
  (hv:bw E (.call f aa h) (.res v h1)) (ha:bw E (.ops nt all l (bB tm p.dst v) [] h1) o):bw E (.ops nt all (p::l) tm [] h) o:=by
 obtain ⟨n1,e1⟩:=ha;obtain ⟨n2,e2⟩:=hv;refine .step ⟨n1+n2,fun n hn'=> ?_⟩
 show sel (cK nt p.dst) (xm E (run E n) nt all l tm [] h p (cg all p tm.get)) (.fail "slot")=o;rw[hd,hw];show doK E (run E n) nt all l tm [] h p (dB p.op)=o;rw[hc];show goK (run E n) h (ig tm.get c.callee) (bT tm.get c.args.toList) (oP (run E n) nt all l tm [] p.dst) (fun v h=>.code (.pan v) tm [] h)=o
 rw[hf,has];show Dy (run E n (.call f aa h)) (oP (run E n) nt all l tm [] p.dst) (fun v h=>.code (.pan v) tm [] h)=o
 rw[e2 n (by omega)]
 exact e1 n (by omega)
theorem bw.dE {k:Nat} {fi aa ca:List SV} (hc:bw E (.call (.fn (.func k) [] []) (fi++aa++ca) h) o):bw E (.call (.fn (.func k) fi ca) aa h) o:=by
 obtain ⟨n0,hn⟩:=hc;refine .step ⟨n0,fun n hn'=> ?_⟩
 show @Option.rec SV (fun _=>Out) (wy E (run E n) k (E.fn.get k) (fi++aa++ca) h) (fun v=>.res v h) (iP E k (fi++aa++ca))=o
 have q: @Option.rec SV (fun _=>Out) (wy E (run E n) k (E.fn.get k) ([]++(fi++aa++ca)++ []) h) (fun v=>.res v h) (iP E k ([]++(fi++aa++ca)++ []))=o:=hn (n+1) (by omega)
 rw[List.nil_append,List.append_nil] at q;exact q
structure ye (E:Env) (k:Nat) (fn:Func) (c:Code):Prop where
 get:E.fn.get k=some fn
 body:fn.body=some c
 num:qs fn.name=false
 done:rB k E.done=none
theorem bw.call {k:Nat} {fn:Func} {c:Code} (hk:ye E k fn c) {fi aa ca vs:List SV} {e:Ex} (hl:Nat.ble (fi++aa++ca).length fn.ntmps=true) (he:BA e=true)
  (hb:bw E (.code fn.ntmps c (setArgs (fi++aa++ca) 0 .nil) [] ⟨h.hp,h.nx,[]⟩) (.code e tm1 [] h1)) (hr:jI E tm1.get h1.hp.get fn.results.toList=some vs):
  bw E (.call (.fn (.func k) fi ca) aa h) (.res (oneOf vs) ⟨h1.hp,h1.nx,below h.nx h1.lg h.lg⟩):=by
 obtain ⟨n1,e1⟩:=hb;refine .step ⟨n1,fun n hn'=> ?_⟩
 show @Option.rec SV (fun _=>Out) (wy E (run E n) k (E.fn.get k) (fi++aa++ca) h) (fun v=>.res v h) (iP E k (fi++aa++ca))=_
 have ed:iP E k (fi++aa++ca)=none:=by
  generalize fi++aa++ca=l;cases l with
  |nil=>exact hk.done
  |cons _ _=>rfl
 rw[ed];show wy E (run E n) k (E.fn.get k) (fi++aa++ca) h=_;rw[hk.get];show @Option.rec Code (fun _=>Out) (LD fn (fi++aa++ca) h) (fun c=>sel (Nat.ble (fi++aa++ca).length fn.ntmps) (sel (qs fn.name) (.fail "NumGoroutine") (vM E (run E n) fn h.nx h.lg (run E n (.code fn.ntmps c (setArgs (fi++aa++ca) 0 .nil) [] ⟨h.hp,h.nx,[]⟩)))) (.fail "args")) fn.body=_
 rw[hk.body];show sel (Nat.ble (fi++aa++ca).length fn.ntmps) (sel (qs fn.name) (.fail "NumGoroutine") (vM E (run E n) fn h.nx h.lg (run E n (.code fn.ntmps c (setArgs (fi++aa++ca) 0 .nil) [] ⟨h.hp,h.nx,[]⟩)))) (.fail "args")=_;rw[hl,hk.num];show vM E (run E n) fn h.nx h.lg (run E n (.code fn.ntmps c (setArgs (fi++aa++ca) 0 .nil) [] ⟨h.hp,h.nx,[]⟩))=_;rw[e1 n hn'];have key:kV E fn tm1 [] none h1= .res (oneOf vs) h1:=by
  show @Option.rec (List SV) (fun _=>Out) (.fail fn.name) (fun vs=>.res (oneOf vs) h1) (jI E tm1.get h1.hp.get fn.results.toList)=_
  rw[hr]
 cases e<;>first
  |(show B0 h.nx h.lg (kV E fn tm1 [] none h1)=_;rw[key];rfl)
  |(cases he;done)
theorem bw.done {k:Nat} {v:SV} (hd:rB k E.done=some v):bw E (.call (.fn (.func k) [] []) [] h) (.res v h):=by
 refine .step ⟨0,fun n _=> ?_⟩
 show @Option.rec SV (fun _=>Out) _ (fun v=>.res v h) (rB k E.done)=_
 rw[hd]
theorem bw.fuel {j:Job} (hg:bw E j o):∃n,run E n j=o:=by
 obtain ⟨n,hn⟩:=hg;exact ⟨n,hn n (Nat.le_refl _)⟩
end
section
inductive AV where
 |bool (b:Bool)
 |int (k:IntKind) (n:Int)
 |str (s:ByteArray)
 |slice (e:TypeId) (s:Nat) (rows:List (List AV))
 |sln (e:TypeId) (s:Nat) (rows:List (List AV))
 |slf (e:TypeId) (s:Nat) (rows:List (List AV))
 |slx (e:TypeId) (s:Nat) (rows:List (List AV))
 |imm (cs:List AV)
 |aU
 |cU
 |cV
 |dt
 |cW
 |agg (cs:List AV)
 |tup (vs:List AV)
 |fn (f:FuncId) (first dE:List AV)
 |ifc (t:TypeId) (x:AV)
 |loc (K off:Nat)
 |el (K s j f:Nat)
 |ms (K s lo n:Nat)
 |mp (K:Nat)
 |it (K:Nat)
 |undef
 deriving Inhabited
inductive Bx where
 |flat (e:TypeId) (cs:List AV)
 |rows (z:Bool) (e:TypeId) (s:Nat) (Q:List (List AV))
 |map (es:List (AV×AV))
 |iter (s:ByteArray) (pos:Nat)
 |hole (e:TypeId) (s:Nat) (Q:List (List AV)) (i:Nat) (x:AV)
 |own (e e':TypeId) (s:Nat) (Q:List (Option (List (List AV)))) (o:Option (Nat×AV))
 deriving Inhabited
structure Gb where
 ρ:Nat->Nat
 κ:Nat->Cp
 β:Nat->Bool
def Gb.no:Gb:=⟨fun _=>0,fun _=>.k 0,fun _=>false⟩
def oD (e:TypeId) (n:Nat):Cp->Prop
 | .u e'=>e'=e
 | .k m=>n<=m
mutual
inductive VA (F:Hf):Gb->SV->AV->Prop
 |bool {g} (b):VA F g (.bool b) (.bool b)
 |int {g} (k n):VA F g (.int k (.lit n)) (.int k n)
 |str {g} (s):VA F g (.str s) (.str s)
 |iv {g} (e s):VA F g .aU (.slice e s [])
 |slice {g id off n c s rows e e' svs} (hF:cL (F id) off (n*s)=some (e',svs)) (hc:oD e n c) (hn:n=rows.length) (hu:∀r∈rows,r.length=s) (hl:off+n*s<=svs.length) (h:VAs F .no ((svs.drop off).take (n*s)) rows.flatten):VA F g (.sl id off n c) (.slice e s rows)
 |mf {g} (e s):VA F g .aU (.slx e s [])
 |rV {g} (e s):VA F g .sle (.slx e s [])
 |slx {g id off n c s rows e e' svs} (hF:cL (F id) off (n*s)=some (e',svs)) (hc:oD e n c) (hn:n=rows.length) (hu:∀r∈rows,r.length=s) (hl:off+n*s<=svs.length) (h:VAs F .no ((svs.drop off).take (n*s)) rows.flatten):VA F g (.sl id off n c) (.slx e s rows)
 |tM {g} (e s):VA F g .aU (.slf e s [])
 |slf {g id off n s rows e e' svs} (hF:cL (F id) off (n*s)=some (e',svs)) (hn:n=rows.length) (hu:∀r∈rows,r.length=s) (hl:off+n*s<=svs.length) (h:VAs F .no ((svs.drop off).take (n*s)) rows.flatten):VA F g (.sl id off n (.k n)) (.slf e s rows)
 |mR {g} (e s):VA F g .aU (.sln e s [])
 |sln {g id off n c s rows e e' svs} (hF:cL (F id) off (n*s)=some (e',svs)) (hc:oD e n c) (hn:n=rows.length) (hz:rows≠ []) (hu:∀r∈rows,r.length=s) (hl:off+n*s<=svs.length) (h:VAs F .no ((svs.drop off).take (n*s)) rows.flatten):VA F g (.sl id off n c) (.sln e s rows)
 |imm {g id off cs e svs} (hF:cL (F id) off cs.length=some (e,svs)) (hl:off+cs.length<=svs.length) (h:VAs F .no ((svs.drop off).take cs.length) cs):VA F g (.ptr id off) (.imm cs)
 |aU {g}:VA F g .aU .aU
 |cU {g}:VA F g .cU .cU
 |cV {g}:VA F g .cV .cV
 |dt {g}:VA F g .dt .dt
 |cW {g}:VA F g .cW .cW
 |agg {g cs xs} (h:VAs F g cs xs):VA F g (.agg cs) (.agg xs)
 |tup {g cs xs} (h:VAs F g cs xs):VA F g (.tup cs) (.tup xs)
 |fn {g} (f) {a c xs ys} (h1:VAs F g a xs) (h2:VAs F g c ys):VA F g (.fn (.func f) a c) (.fn f xs ys)
 |ifc {g} (t) {v x} (h:VA F g v x):VA F g (.ifc t v) (.ifc t x)
 |loc {g} (K off):VA F g (.ptr (g.ρ K) off) (.loc K off)
 |el {g K} (s j f) (hb:g.β K=true):VA F g (.ptr (g.ρ K) (j*s+f)) (.el K s j f)
 |msN {g K} (s) (hb:g.β K=false):VA F g .aU (.ms K s 0 0)
 |ms {g K} (s lo n) (hb:g.β K=true):VA F g (.sl (g.ρ K) (lo*s) n (j3 (g.κ K) lo)) (.ms K s lo n)
 |msE {g K} (s lo) (hl:0<lo):VA F g .sle (.ms K s lo 0)
 |mp {g} (K):VA F g (.mp (g.ρ K)) (.mp K)
 |it {g} (K):VA F g (.ptr (g.ρ K) 0) (.it K)
 |undef {g} (v):VA F g v .undef
inductive VAs (F:Hf):Gb->List SV->List AV->Prop
 |nil {g}:VAs F g [] []
 |cons {g v x vs xs} (h:VA F g v x) (t:VAs F g vs xs):VAs F g (v::vs) (x::xs)
end
def Hle (F F':Hf):Prop:=∀id o,F id=some o->F' id=some o
theorem Hle.refl (F:Hf):Hle F F:=fun _ _ h=>h
theorem Hle.trans {a b c:Hf} (h:Hle a b) (k:Hle b c):Hle a c:=fun id o q=>k id o (h id o q)
theorem iR {F F':Hf} (hF:Hle F F') {id off n:Nat} {p:TypeId×List SV} (q:cL (F id) off n=some p):cL (F' id) off n=some p:=by
 cases hf:F id with
 |none=>rw[hf] at q;cases q
 |some o=>rw[hF id o hf,<-hf];exact q
theorem n7 {F:Hf} {id off n:Nat} {p:TypeId×List SV} (q:cL (F id) off n=some p):∃o,F id=some o:=by
 cases hf:F id with
 |none=>rw[hf] at q;cases q
 |some o=>exact ⟨o,rfl⟩
theorem fy {o:Option SO} {off n:Nat} {e:TypeId} {svs:List SV} (h:o=some (.cells e svs)):cL o off n=some (e,svs):=by rw[h];rfl
theorem wK:∀{cs:List SV},(∀(j:Nat) (x:SV),cs[j]? =some x->isU x=false)->kW cs=true
 | [],_=>rfl
 |y::cs,h=>by
  show sel (isU y) false (kW cs)=true;rw[aC,if_neg (by rw[h 0 y rfl];decide)]
  exact wK fun j x hx=>h (j+1) x hx
theorem kC {o:Option SO} {off n zO n':Nat} {p:TypeId×List SV} (h:cL o off n=some p) (h1:off<=zO) (h2:zO+n'<=off+n):cL o zO n'=some p:=by
 cases o with
 |none=>cases h
 |some x=>cases x with
  |ro cs=>
   obtain ⟨hd,hx⟩:=ar (show sel (kW ((cs.drop off).take n)) (some (0,cs)) none=some p from h);show sel (kW ((cs.drop zO).take n')) (some (0,cs)) none=some p;rw[aC,if_pos (wK fun j x hj=> ?_)]
   ·exact hx
   ·rw[List.getElem?_take] at hj;split at hj
    ·rw[List.getElem?_drop] at hj;refine uJ hd (j:=zO-off+j) ?_;rw[List.getElem?_take,if_pos (by omega),List.getElem?_drop,show off+(zO-off+j)=zO+j by omega]
     exact hj
    ·cases hj
  |_=>exact h
variable {F F':Hf} {g g':Gb}
mutual
theorem VA.mono (hF:Hle F F'):∀{g v x},VA F g v x->VA F' g v x
 |_,_,_,.bool b=>.bool b
 |_,_,_,.int k n=>.int k n
 |_,_,_,.str s=>.str s
 |_,_,_,.iv e s=>.iv e s
 |_,_,_,.mf e s=>.mf e s
 |_,_,_,.rV e s=>.rV e s
 |_,_,_,.slx q hc hn hu hl h=>.slx (iR hF q) hc hn hu hl (h.mono hF)
 |_,_,_,.tM e s=>.tM e s
 |_,_,_,.slf q hn hu hl h=>.slf (iR hF q) hn hu hl (h.mono hF)
 |_,_,_,.slice q hc hn hu hl h=>.slice (iR hF q) hc hn hu hl (h.mono hF)
 |_,_,_,.mR e s=>.mR e s
 |_,_,_,.sln q hc hn hz hu hl h=>.sln (iR hF q) hc hn hz hu hl (h.mono hF)
 |_,_,_,.imm q hl h=>.imm (iR hF q) hl (h.mono hF)
 |_,_,_,.aU=>.aU
 |_,_,_,.cU=>.cU
 |_,_,_,.cV=>.cV
 |_,_,_,.dt=>.dt
 |_,_,_,.cW=>.cW
 |_,_,_,.agg h=>.agg (h.mono hF)
 |_,_,_,.tup h=>.tup (h.mono hF)
 |_,_,_,.fn f h1 h2=>.fn f (h1.mono hF) (h2.mono hF)
 |_,_,_,.ifc t h=>.ifc t (h.mono hF)
 |_,_,_,.loc K off=>.loc K off
 |_,_,_,.el s j f hb=>.el s j f hb
 |_,_,_,.msN s hb=>.msN s hb
 |_,_,_,.ms s lo n hb=>.ms s lo n hb
 |_,_,_,.msE s lo hl=>.msE s lo hl
 |_,_,_,.mp K=>.mp K
 |_,_,_,.it K=>.it K
 |_,_,_,.undef v=>.undef v
theorem VAs.mono (hF:Hle F F'):∀{g v x},VAs F g v x->VAs F' g v x
 |_,_,_,.nil=>.nil
 |_,_,_,.cons h t=>.cons (h.mono hF) (t.mono hF)
end
mutual
def bV:AV->List Nat
 | .agg cs=>cQ cs
 | .tup vs=>cQ vs
 | .fn _ a c=>cQ a++cQ c
 | .ifc _ x=>bV x
 | .loc K _=> [K]
 | .el K _ _ _=> [K]
 | .ms K _ _ _=> [K]
 | .mp K=> [K]
 | .it K=> [K]
 |_=> []
def cQ:List AV->List Nat
 | []=> []
 |x::l=>bV x++cQ l
end
theorem VAs.length:∀{vs xs},VAs F g vs xs->vs.length=xs.length
 |_,_,.nil=>rfl
 |_,_,.cons _ t=>by simp[t.length]
theorem VAs.get:∀{vs xs},VAs F g vs xs->∀{j:Nat} {x:AV},xs[j]? =some x->∃v,vs[j]? =some v/\VA F g v x
 |_,_,.nil,_,_,h=>by simp at h
 |_,_,.cons h t,j,x,hx=>by
  cases j with
  |zero=>simp at hx;subst hx;exact ⟨_,rfl,h⟩
  |succ j=>simp at hx;obtain ⟨v,a,b⟩:=t.get hx;exact ⟨v,by simpa using a,b⟩
theorem VAs.append:∀{vs xs ws ys},VAs F g vs xs->VAs F g ws ys->VAs F g (vs++ws) (xs++ys)
 |_,_,_,_,.nil,k=>k
 |_,_,_,_,.cons h t,k=>.cons h (t.append k)
theorem VAs.drop:∀{vs xs} (n:Nat),VAs F g vs xs->VAs F g (vs.drop n) (xs.drop n)
 |_,_,0,h=>h
 |_,_,n+1,.nil=>by simpa using .nil
 |_,_,n+1,.cons _ t=>by simpa using t.drop n
theorem VAs.take:∀{vs xs} (n:Nat),VAs F g vs xs->VAs F g (vs.take n) (xs.take n)
 |_,_,0,_=>by simpa using .nil
 |_,_,n+1,.nil=>by simpa using .nil
 |_,_,n+1,.cons h t=>by simpa using .cons h (t.take n)
theorem VAs.bF {vs xs ws ys} (h:VAs F g vs xs) (k:VAs F g ws ys) (off:Nat):VAs F g (bF vs off ws) (xs.take off++ys++xs.drop (off+ys.length)):=by
 have:=((h.take off).append k).append (h.drop (off+ys.length));show VAs F g (vs.take off++ws++vs.drop (off+ws.length)) _;rw[k.length];exact this
def rR (e:TypeId) (s n:Nat) (len:Nat):Cp->Prop
 | .u e'=>e'=e/\n*s<=len
 | .k m=>n<=m/\len=m*s
theorem xQ {e:TypeId} {s n len:Nat} {c:Cp} (hc:rR e s n len c):oD e n c:=by
 cases c with
 |k m=>exact hc.1
 |u e'=>exact hc.1
theorem eA {e:TypeId} {s n len:Nat} {c:Cp} (hc:rR e s n len c):n*s<=len:=by
 cases c with
 |k m=>obtain ⟨c1,c2⟩:=hc;rw[c2];exact Nat.mul_le_mul_right _ c1
 |u e'=>obtain ⟨_,c2⟩:=hc;omega
inductive su (F h:Hf) (e:TypeId) (s:Nat):SV->Option (List (List AV))->List Nat->Prop
 |any (v):su F h e s v none []
 |nil:su F h e s .aU (some []) []
 |sl {id c svs Q} (hh:h id=some (.cells e svs)) (hu:∀r∈Q,r.length=s) (hc:rR e s Q.length svs.length c) (q:VAs F .no (svs.take (Q.length*s)) Q.flatten):su F h e s (.sl id 0 Q.length c) (some Q) [id]
inductive gB (F h:Hf) (e:TypeId) (s:Nat):List SV->List (Option (List (List AV)))->List (List Nat)->Prop
 |nil:gB F h e s [] [] []
 |cons {v Q f vs Qs fs} (q:su F h e s v Q f) (t:gB F h e s vs Qs fs):gB F h e s (v::vs) (Q::Qs) (f::fs)
theorem su.fL {h h':Hf} {e:TypeId} {s:Nat} {v:SV} {Q:Option (List (List AV))} {f:List Nat} (hF:Hle F F') (q:su F h e s v Q f) (hk:∀i,i∈f->h' i=h i):su F' h' e s v Q f:=by
 cases q with
 |any v=>exact .any v
 |nil=>exact .nil
 |sl hh hu hc q=>exact .sl ((hk _ (by simp)).trans hh) hu hc (q.mono hF)
theorem gB.fL {h h':Hf} {e:TypeId} {s:Nat} (hF:Hle F F'):∀{vs:List SV} {Qs:List (Option (List (List AV)))} {fs:List (List Nat)},gB F h e s vs Qs fs->(∀i,i∈fs.flatten->h' i=h i)->gB F' h' e s vs Qs fs
 |_,_,_,.nil,_=>.nil
 |_,_,_,.cons q t,hk=>.cons (q.fL hF fun i hi=>hk i (by simp[hi])) (t.fL hF fun i hi=>hk i (by rw[List.flatten_cons];exact List.mem_append_right _ hi))
theorem gB.there {h:Hf} {e:TypeId} {s:Nat}:∀{vs:List SV} {Qs:List (Option (List (List AV)))} {fs:List (List Nat)},gB F h e s vs Qs fs->∀i∈fs.flatten,h i≠none
 |_,_,_,.nil,i,hi=>by cases hi
 |_,_,_,.cons q t,i,hi=>by
  rw[List.flatten_cons] at hi;rcases List.mem_append.1 hi with hi|hi
  ·cases q with
   |any|nil=>cases hi
   |sl hh=>rw[List.mem_singleton.1 hi,hh];simp
  ·exact t.there i hi
inductive cD (F:Hf) (g:Gb) (h:Hf) (K:Nat):Bx->List Nat->Prop
 |flat {e cs svs} (hh:h (g.ρ K)=some (.cells e svs)) (q:VAs F g svs cs):cD F g h K (.flat e cs) [g.ρ K]
 |cH {z e s} (hb:g.β K=false):cD F g h K (.rows z e s []) []
 |rows {z e s Q svs} (hb:g.β K=true) (hh:h (g.ρ K)=some (.cells e svs)) (hz:z=true->Q≠ []) (hu:∀r∈Q,r.length=s) (hc:rR e s Q.length svs.length (g.κ K)) (q:VAs F .no (svs.take (Q.length*s)) Q.flatten):cD F g h K (.rows z e s Q) [g.ρ K]
 |map {es ms c} (hh:h (g.ρ K)=some (.map ms c)) (hk:VAs F .no (ms.map (·.1)) (es.map (·.1))) (hv:VAs F .no (ms.map (·.2.1)) (es.map (·.2))):cD F g h K (.map es) [g.ρ K]
 |iter {s pos} (hh:h (g.ρ K)=some (.ia s pos)):cD F g h K (.iter s pos) [g.ρ K]
 |hole {e s Q i x svs v} (hb:g.β K=true) (hh:h (g.ρ K)=some (.cells e svs)) (hu:∀r∈Q,r.length=s) (hc:rR e s Q.length svs.length (g.κ K)) (q:VAs F .no (svs.take (Q.length*s)) Q.flatten) (hi:i<Q.length*s) (hv:svs[i]? =some v) (hx:VA F g v x):cD F g h K (.hole e s Q i x) [g.ρ K]
 |own {e e' s Q o svs fs} (hb:g.β K=true) (hh:h (g.ρ K)=some (.cells e svs)) (hc:rR e 1 Q.length svs.length (g.κ K)) (q:gB F h e' s (svs.take Q.length) Q fs) (nd:(g.ρ K::fs.flatten).Nodup) (ho:∀i x,o=some (i,x)->Q[i]? =some none/\∃v,svs[i]? =some v/\VA F g v x):cD F g h K (.own e e' s Q o) (g.ρ K::fs.flatten)
 |jq {e e' s} (hb:g.β K=false):cD F g h K (.own e e' s [] none) []
theorem cD.fL {h h':Hf} {K:Nat} {b:Bx} {fp:List Nat} (hF:Hle F F') (q:cD F g h K b fp) (hk:∀i,i∈fp->h' i=h i):cD F' g h' K b fp:=by
 cases q with
 |flat hh q=>exact .flat ((hk _ (by simp)).trans hh) (q.mono hF)
 |cH hb=>exact .cH hb
 |rows hb hh hz hu hc q=>exact .rows hb ((hk _ (by simp)).trans hh) hz hu hc (q.mono hF)
 |map hh q1 q2=>exact .map ((hk _ (by simp)).trans hh) (q1.mono hF) (q2.mono hF)
 |iter hh=>exact .iter ((hk _ (by simp)).trans hh)
 |hole hb hh hu hc q hi hv hx=>exact .hole hb ((hk _ (by simp)).trans hh) hu hc (q.mono hF) hi hv (hx.mono hF)
 |jq hb=>exact .jq hb
 |own hb hh hc q nd ho=>exact .own hb ((hk _ (by simp)).trans hh) hc (q.fL hF fun i hi=>hk i (List.mem_cons_of_mem _ hi)) nd fun i x e=>by obtain ⟨a,v,b,c⟩:=ho i x e;exact ⟨a,v,b,c.mono hF⟩
theorem cD.there {h:Hf} {K:Nat} {b:Bx} {fp:List Nat} (q:cD F g h K b fp):∀i∈fp,h i≠none:=by
 intro i hi;have key:∀{o:SO},h (g.ρ K)=some o->i∈ [g.ρ K]->h i≠none:=fun hh hi=>by rw[List.mem_singleton.1 hi,hh];simp
 cases q with
 |cH hb=>cases hi
 |flat hh q=>exact key hh hi
 |rows hb hh hz hu hc q=>exact key hh hi
 |map hh q1 q2=>exact key hh hi
 |iter hh=>exact key hh hi
 |hole hb hh hu hc q hi' hv hx=>exact key hh hi
 |jq hb=>cases hi
 |own hb hh hc q nd ho=>
  rcases List.mem_cons.1 hi with e|hi
  ·exact key hh (by simp[e])
  ·exact q.there i hi
def fT (g g':Gb) (ks:List Nat):Prop:=∀k∈ks,g'.ρ k=g.ρ k/\g'.κ k=g.κ k/\g'.β k=g.β k
def kq (g g':Gb) (f:Nat->Nat) (ks:List Nat):Prop:=∀k∈ks,g'.ρ (f k)=g.ρ k/\g'.κ (f k)=g.κ k/\g'.β (f k)=g.β k
theorem kq.left {f:Nat->Nat} {a b:List Nat} (h:kq g g' f (a++b)):kq g g' f a:=fun k hk=>h k (List.mem_append_left _ hk)
theorem kq.right {f:Nat->Nat} {a b:List Nat} (h:kq g g' f (a++b)):kq g g' f b:=fun k hk=>h k (List.mem_append_right _ hk)
mutual
def jP (f:Nat->Nat):AV->AV
 | .agg cs=>.agg (g7 f cs)
 | .tup vs=>.tup (g7 f vs)
 | .fn i a c=>.fn i (g7 f a) (g7 f c)
 | .ifc t x=>.ifc t (jP f x)
 | .loc K off=>.loc (f K) off
 | .el K s j i=>.el (f K) s j i
 | .ms K s lo n=>.ms (f K) s lo n
 | .mp K=>.mp (f K)
 | .it K=>.it (f K)
 |x=>x
def g7 (f:Nat->Nat):List AV->List AV
 | []=> []
 |x::l=>jP f x::g7 f l
end
mutual
theorem VA.ren {f:Nat->Nat}:∀{v x},VA F g v x->kq g g' f (bV x)->VA F g' v (jP f x)
 |_,_,.bool b,_=>.bool b
 |_,_,.int k n,_=>.int k n
 |_,_,.str s,_=>.str s
 |_,_,.iv e s,_=>.iv e s
 |_,_,.mf e s,_=>.mf e s
 |_,_,.rV e s,_=>.rV e s
 |_,_,.slx q hc hn hu hl h,_=>.slx q hc hn hu hl h
 |_,_,.tM e s,_=>.tM e s
 |_,_,.slf q hn hu hl h,_=>.slf q hn hu hl h
 |_,_,.slice q hc hn hu hl h,_=>.slice q hc hn hu hl h
 |_,_,.mR e s,_=>.mR e s
 |_,_,.sln q hc hn hz hu hl h,_=>.sln q hc hn hz hu hl h
 |_,_,.imm q hl h,_=>.imm q hl h
 |_,_,.aU,_=>.aU
 |_,_,.cU,_=>.cU
 |_,_,.cV,_=>.cV
 |_,_,.dt,_=>.dt
 |_,_,.cW,_=>.cW
 |_,_,.agg h,k=>.agg (h.ren k)
 |_,_,.tup h,k=>.tup (h.ren k)
 |_,_,.fn i h1 h2,k=>.fn i (h1.ren (kq.left k)) (h2.ren (kq.right k))
 |_,_,.ifc t h,k=>.ifc t (h.ren k)
 |_,_,.loc K off,k=>by
  have:=(k K (by simp[bV])).1
  rw[<-this];exact .loc (f K) off
 |_,_,.el (K:=K) s j i hb,k=>by
  obtain ⟨k1,_,k3⟩:=k K (by simp[bV])
  rw[<-k1];exact .el s j i (k3.trans hb)
 |_,_,.msN (K:=K) s hb,k=>.msN s ((k K (by simp[bV])).2.2.trans hb)
 |_,_,.ms (K:=K) s lo n hb,k=>by
  obtain ⟨k1,k2,k3⟩:=k K (by simp[bV])
  rw[<-k1,<-k2];exact .ms s lo n (k3.trans hb)
 |_,_,.msE s lo hl,_=>.msE s lo hl
 |_,_,.mp K,k=>by
  have:=(k K (by simp[bV])).1
  rw[<-this];exact .mp (f K)
 |_,_,.it K,k=>by
  have:=(k K (by simp[bV])).1
  rw[<-this];exact .it (f K)
 |_,_,.undef v,_=>.undef v
theorem VAs.ren {f:Nat->Nat}:∀{v x},VAs F g v x->kq g g' f (cQ x)->VAs F g' v (g7 f x)
 |_,_,.nil,_=>.nil
 |_,_,.cons h t,k=>.cons (h.ren (kq.left k)) (t.ren (kq.right k))
end
mutual
theorem sS:∀x,jP (fun k=>k) x=x
 | .agg cs=>congrArg AV.agg (lF cs)
 | .tup cs=>congrArg AV.tup (lF cs)
 | .fn i a c=>by show AV.fn i (g7 _ a) (g7 _ c)=_;rw[lF a,lF c]
 | .ifc t x=>congrArg (AV.ifc t) (sS x)
 | .bool _| .int _ _| .str _| .slice _ _ _| .sln _ _ _| .slf _ _ _| .slx _ _ _| .imm _| .aU| .cU| .cV| .dt| .cW| .loc _ _| .el _ _ _ _| .ms _ _ _ _| .mp _| .it _| .undef=>rfl
theorem lF:∀x,g7 (fun k=>k) x=x
 | []=>rfl
 |x::l=>by show jP _ x::g7 _ l=_;rw[sS x,lF l]
end
theorem VA.gb {v x} (h:VA F g v x) (k:fT g g' (bV x)):VA F g' v x:=by
 have:=h.ren (g':=g') (f:=fun k=>k) k
 rwa[sS] at this
theorem VAs.gb {v x} (h:VAs F g v x) (k:fT g g' (cQ x)):VAs F g' v x:=by
 have:=h.ren (g':=g') (f:=fun k=>k) k
 rwa[lF] at this
def Bx.keys:Bx->List Nat
 | .flat _ cs=>cQ cs
 | .hole _ _ _ _ x=>bV x
 | .own _ _ _ _ (some p)=>bV p.2
 |_=> []
def DQ (f:AV->AV):Option (Nat×AV)->Option (Nat×AV)
 |some p=>some (p.1,f p.2)
 |none=>none
theorem nU {f:AV->AV} {o:Option (Nat×AV)} {i:Nat} {y:AV} (h:DQ f o=some (i,y)):∃x,o=some (i,x)/\y=f x:=by
 cases o with
 |none=>cases h
 |some p=>cases h;exact ⟨p.2,rfl,rfl⟩
def Bx.ren (f:Nat->Nat):Bx->Bx
 | .flat e cs=>.flat e (g7 f cs)
 | .hole e s Q i x=>.hole e s Q i (jP f x)
 | .own e e' s Q o=>.own e e' s Q (DQ (jP f) o)
 |b=>b
theorem cD.ren {h:Hf} {K:Nat} {b:Bx} {fp:List Nat} {f:Nat->Nat} (q:cD F g h K b fp) (hK:kq g g' f [K]) (hk:kq g g' f b.keys):cD F g' h (f K) (b.ren f) fp:=by
 obtain ⟨k1,k2,k3⟩:=hK K (by simp)
 cases q with
 |flat hh q=>rw[<-k1] at hh ⊢;exact .flat hh (q.ren hk)
 |cH hb=>exact .cH (k3.trans hb)
 |rows hb hh hz hu hc q=>rw[<-k1] at hh ⊢;rw[<-k2] at hc;exact .rows (k3.trans hb) hh hz hu hc q
 |map hh q1 q2=>rw[<-k1] at hh ⊢;exact .map hh q1 q2
 |iter hh=>rw[<-k1] at hh ⊢;exact .iter hh
 |hole hb hh hu hc q hi hv hx=>rw[<-k1] at hh ⊢;rw[<-k2] at hc;exact .hole (k3.trans hb) hh hu hc q hi hv (hx.ren hk)
 |jq hb=>exact .jq (k3.trans hb)
 |own hb hh hc q nd ho=>
  rw[<-k1] at hh nd ⊢;rw[<-k2] at hc;refine .own (k3.trans hb) hh hc q nd fun i x e=> ?_
  obtain ⟨y,e1,rfl⟩:=nU e;subst e1;obtain ⟨a,v,b,c⟩:=ho i y rfl;exact ⟨a,v,b,c.ren hk⟩
theorem Bx.afL:∀b:Bx,b.ren (fun k=>k)=b
 | .flat e cs=>congrArg (Bx.flat e) (lF cs)
 | .hole e s Q i x=>congrArg (Bx.hole e s Q i) (sS x)
 | .own e e' s Q none=>rfl
 | .own e e' s Q (some p)=>by show Bx.own e e' s Q (some (p.1,jP _ p.2))=_;rw[sS p.2]
 | .rows _ _ _ _| .map _| .iter _ _=>rfl
theorem cD.gb {h:Hf} {K:Nat} {b:Bx} {fp:List Nat} (q:cD F g h K b fp) (hK:fT g g' [K]) (hk:fT g g' b.keys):cD F g' h K b fp:=by
 have:=q.ren (g':=g') (f:=fun k=>k) hK hk
 rwa[Bx.afL] at this
end
section
variable {F F':Hf} {g g':Gb}
structure LS where
 ts:List (Nat×AV)
 bs:List (Nat×Bx)
def lk {α:Type} (t:Nat) (l:List (Nat×α)):Option α:=List.rec none (fun p _ ih=>sel (Nat.beq t p.1) (some p.2) ih) l
theorem aW {α:Type} (t k:Nat) (x:α) (l:List (Nat×α)):lk t ((k,x)::l)=if t=k then some x else lk t l:=by
 show sel (Nat.beq t k) (some x) (lk t l)=_;rw[aC];by_cases h:t=k
 ·rw[if_pos h,if_pos ((beq_iff _ _).2 h)]
 ·rw[if_neg h,if_neg (fun e=>h ((beq_iff _ _).1 e))]
theorem gT {α β:Type} (f:α->β) (t:Nat):∀l:List (Nat×α),lk t (l.map fun p=>(p.1,f p.2))=(lk t l).map f
 | []=>rfl
 |(k,x)::l=>by
  rw[List.map_cons,aW,aW,gT f t l];split<;>rfl
theorem nV {α:Type} {t:Nat} {x:α}:∀{l:List (Nat×α)},lk t l=some x->(t,x)∈l
 | [],h=>by cases h
 |(k,y)::l,h=>by
  rw[aW] at h;split at h
  ·rename_i e;cases h;rw[e];exact List.mem_cons_self
  ·exact List.mem_cons_of_mem _ (nV h)
structure Bs where
 hp:Hf
 F:Hf
 g:Gb
 nx:Nat
 pk:Nat->Bool
 φ:Nat->List Nat
def Bs.ps (B:Bs) (k i:Nat):Prop:=B.pk k=true/\i∈B.φ k
structure Rel (B:Bs) (F:Hf) (g:Gb) (φ:Nat->List Nat) (s:LS) (tm:Tf) (h:Hs):Prop where
 tm:∀t x,lk t s.ts=some x->x≠ .undef->∃v,tm t=some v/\VA F g v x
 bx:∀k b,lk k s.bs=some b->cD F g h.hp.get k b (φ k)
 dj:∀k k' b b',lk k s.bs=some b->lk k' s.bs=some b'->k≠k'->∀i∈φ k,i∉φ k'
 nf:∀k b,lk k s.bs=some b->∀i∈φ k,F i=none
 sub:Hle F h.hp.get
 bd:∀x,h.nx<=x->h.hp.get x=none
 nx:B.nx<=h.nx
 old:∀x,x<B.nx->(∀k,¬B.ps k x)->h.hp.get x=B.hp x
 f0:Hle B.F F
 fn:∀id o,F id=some o->B.F id=some o\/B.nx<=id
 gJ:∀k b,lk k s.bs=some b->∀i∈φ k,B.ps k i\/B.nx<=i
 lg:∀x∈h.lg,(∃k,B.ps k x)\/B.nx<=x
 pin:∀k,B.pk k=true->fT B.g g [k]
variable {B:Bs} {φ:Nat->List Nat} {s s':LS} {tm:Tf} {h:Hs}
def LS.put (s:LS) (d:Nat) (x:AV):LS:=⟨(d,x)::s.ts,s.bs⟩
theorem Rel.put (r:Rel B F g φ s tm h) {d:Nat} {v:SV} {x:AV} {tm':Tf} (ht:∀t,tm' t=if t=d then some v else tm t) (hv:x≠ .undef->VA F g v x):Rel B F g φ (s.put d x) tm' h:=by
 refine {r with tm:=fun t y hy hn=> ?_}
 rw[show (s.put d x).ts=(d,x)::s.ts from rfl,aW] at hy;rw[ht];split at hy
 ·rename_i e;cases hy;exact ⟨v,by rw[if_pos e],hv hn⟩
 ·rename_i e;rw[if_neg e];exact r.tm t y hy hn
theorem Rel.hlt (r:Rel B F g φ s tm h) {i:Nat} (hi:h.hp.get i≠none):i<h.nx:=by
 by_cases hx:i<h.nx
 ·exact hx
 ·exact absurd (r.bd i (by omega)) hi
theorem Rel.lt (r:Rel B F g φ s tm h) {k:Nat} {b:Bx} (hb:lk k s.bs=some b):∀i∈φ k,i<h.nx:=fun i hi=>r.hlt ((r.bx k b hb).there i hi)
theorem Rel.flt (r:Rel B F g φ s tm h) {i:Nat} {o:SO} (hf:F i=some o):i<h.nx:=r.hlt (by rw[r.sub i o hf];simp)
def WV (x y:AV):Prop:=y= .undef\/∀(F:Hf) (g:Gb) (v:SV),VA F g v x->VA F g v y
theorem WV.refl (x:AV):WV x x:=.inr fun _ _ _ h=>h
def WB (b b':Bx):Prop:=∀(F:Hf) (g:Gb) (h:Hf) (K:Nat) (fp:List Nat),cD F g h K b fp->cD F g h K b' fp
theorem WB.refl (b:Bx):WB b b:=fun _ _ _ _ _ h=>h
def kQ (s s':LS):Prop:=(∀t y,lk t s'.ts=some y->y= .undef\/∃x,lk t s.ts=some x/\WV x y)/\∀k b',lk k s'.bs=some b'->∃b,lk k s.bs=some b/\WB b b'
theorem Rel.less (r:Rel B F g φ s tm h) (hw:kQ s s'):Rel B F g φ s' tm h:=by
 obtain ⟨h1,h2⟩:=hw;refine {r with tm:=fun t y hy hn=> ?_,bx:=fun k b hb=> ?_,dj:=fun k k' b b' hb hb'=> ?_,nf:=fun k b hb=> ?_,gJ:=fun k b hb=> ?_}
 ·rcases h1 t y hy with e|⟨x,hx,e|hw⟩
  ·exact absurd e hn
  ·exact absurd e hn
  ·by_cases hu:x= .undef
   ·subst hu;exact absurd (hw F .no (.bool true) (.undef _)) (by
     intro h4;have h1:=hw F g .aU (.undef _);cases y<;>first|exact hn rfl|(cases h1;done)|(cases h4;done))
   ·obtain ⟨v,v1,v2⟩:=r.tm t x hx hu;exact ⟨v,v1,hw F g v v2⟩
 ·obtain ⟨b0,hb0,w⟩:=h2 k b hb;exact w _ _ _ _ _ (r.bx k b0 hb0)
 ·obtain ⟨c,hc,_⟩:=h2 k b hb;obtain ⟨c',hc',_⟩:=h2 k' b' hb';exact r.dj k k' c c' hc hc'
 ·obtain ⟨b0,hb0,_⟩:=h2 k b hb;exact r.nf k b0 hb0
 ·obtain ⟨b0,hb0,_⟩:=h2 k b hb;exact r.gJ k b0 hb0
def LS.free (s:LS) (K:Nat):Prop:=(∀t x,lk t s.ts=some x->K∉bV x)/\∀k b,k≠K->lk k s.bs=some b->K∉b.keys
def LS.set (s:LS) (K:Nat) (b:Bx):LS:=⟨s.ts,(K,b)::s.bs⟩
theorem Rel.chg (r:Rel B F g φ s tm h) {K:Nat} {b':Bx} {fo fp:List Nat} {h':Hs} (hfo:∀i∈fo,∃b,lk K s.bs=some b/\i∈φ K) (hfp:∀i∈fp,i∈fo\/(h.hp.get i=none/\B.nx<=i))
  (hh:∀x,x∉fo->x∉fp->h'.hp.get x=h.hp.get x) (hnx:h.nx<=h'.nx) (hbd:∀x,h'.nx<=x->h'.hp.get x=none) (hlg:∀x∈h'.lg,x∈h.lg\/x∈fo\/x∈fp) (hb':cD F g' h'.hp.get K b' fp)
  (hg:g'=g\/(s.free K/\B.pk K=false/\∀k,k≠K->fT g g' [k])):Rel B F g' (fun k=>if k=K then fp else φ k) (s.set K b') tm h':=by
 have nfo:∀i∈fo,F i=none:=fun i hi=>by obtain ⟨b,hb,hi⟩:=hfo i hi;exact r.nf K b hb i hi
 have nfp:∀i∈fp,F i=none:=fun i hi=>(hfp i hi).elim (nfo i) fun hx=>by
  cases hf:F i with
  |none=>rfl
  |some o=>rw[r.sub i o hf] at hx;cases hx.1
 have mfo:∀i∈fo,B.ps K i\/B.nx<=i:=fun i hi=>by obtain ⟨b,hb,hi⟩:=hfo i hi;exact r.gJ K b hb i hi
 have mfp:∀i∈fp,B.ps K i\/B.nx<=i:=fun i hi=>(hfp i hi).elim (mfo i) fun hx=>.inr hx.2
 have dfo:∀k b,k≠K->lk k s.bs=some b->∀i∈φ k,i∉fo:=fun k b hne hb i hi hc=>by
  obtain ⟨b2,hb2,hi2⟩:=hfo i hc;exact r.dj k K b b2 hb hb2 hne i hi hi2
 have dfp:∀k b,k≠K->lk k s.bs=some b->∀i∈φ k,i∉fp:=fun k b hne hb i hi hc=>(hfp i hc).elim (dfo k b hne hb i hi) fun hx=>(r.bx k b hb).there i hi hx.1
 have lkb:∀{k b1},lk k (s.set K b').bs=some b1->(k=K/\b1=b')\/(k≠K/\lk k s.bs=some b1):=fun {k b1} hk=>by
  rw[show (s.set K b').bs=(K,b')::s.bs from rfl,aW] at hk;split at hk
  ·cases hk;exact .inl ⟨by assumption,rfl⟩
  ·exact .inr ⟨by assumption,hk⟩
 have gs:∀ks:List Nat,(s.free K->K∉ks)->fT g g' ks:=fun ks hk k hks=>by
  rcases hg with rfl|⟨h1,_,h2⟩
  ·exact ⟨rfl,rfl,rfl⟩
  ·exact h2 k (fun e=>hk h1 (e ▸ hks)) k (by simp)
 refine ⟨fun t x hx hn=> ?_,fun k b hb=> ?_,fun k k' b b2 hb hb2 hne i hi=> ?_,fun k b hb i hi=> ?_,fun i o ho=> ?_,hbd,Nat.le_trans r.nx hnx,fun x hx hp=> ?_,r.f0,r.fn,fun k b hb i hi=> ?_,fun x hx=> ?_,fun k hk=> ?_⟩
 ·obtain ⟨v,v1,v2⟩:=r.tm t x hx hn;exact ⟨v,v1,v2.gb (gs _ fun hf=>hf.1 t x hx)⟩
 ·rcases lkb hb with ⟨rfl,rfl⟩|⟨hne,hb⟩
  ·rw[if_pos rfl];exact hb'
  ·rw[if_neg hne];refine cD.fL (Hle.refl F) ((r.bx k b hb).gb (gs _ fun _=>by simpa using Ne.symm hne) (gs _ fun hf=>hf.2 k b hne hb)) fun i hi=>hh i (dfo k b hne hb i hi) (dfp k b hne hb i hi)
 ·rcases lkb hb with ⟨e1,_⟩|⟨n1,c1⟩<;>rcases lkb hb2 with ⟨e2,_⟩|⟨n2,c2⟩
  ·exact absurd (e1.trans e2.symm) hne
  ·rw[if_pos e1] at hi;rw[if_neg n2];exact fun hc=>dfp k' b2 n2 c2 i hc hi
  ·rw[if_neg n1] at hi;rw[if_pos e2];exact dfp k b n1 c1 i hi
  ·rw[if_neg n1] at hi;rw[if_neg n2];exact r.dj k k' b b2 c1 c2 hne i hi
 ·rcases lkb hb with ⟨rfl,rfl⟩|⟨n1,hb⟩
  ·rw[if_pos rfl] at hi;exact nfp i hi
  ·rw[if_neg n1] at hi;exact r.nf k b hb i hi
 ·rw[hh i (fun hc=>by rw[nfo i hc] at ho;cases ho) (fun hc=>by rw[nfp i hc] at ho;cases ho)]
  exact r.sub i o ho
 ·rw[hh x (fun hc=>(mfo x hc).elim (hp K) (by omega)) (fun hc=>(mfp x hc).elim (hp K) (by omega))]
  exact r.old x hx hp
 ·rcases lkb hb with ⟨rfl,rfl⟩|⟨n1,hb⟩
  ·rw[if_pos rfl] at hi;exact mfp i hi
  ·rw[if_neg n1] at hi;exact r.gJ k b hb i hi
 ·rcases hlg x hx with hx|hx|hx
  ·exact r.lg x hx
  ·exact (mfo x hx).elim (fun hp=>.inl ⟨K,hp⟩) .inr
  ·exact (mfp x hx).elim (fun hp=>.inl ⟨K,hp⟩) .inr
 ·rcases hg with rfl|⟨_,h1,h2⟩
  ·exact r.pin k hk
  ·have hne:k≠K:=fun e=>by rw[e,h1] at hk;cases hk
   intro j hj;obtain ⟨a1,a2,a3⟩:=r.pin k hk j hj;have ej:j=k:=by simpa using hj
   obtain ⟨c1,c2,c3⟩:=h2 k hne j hj;exact ⟨c1.trans a1,c2.trans a2,c3.trans a3⟩
end
section
variable {F F':Hf} {g g':Gb} {B:Bs} {φ:Nat->List Nat} {s s':LS} {tm:Tf} {h:Hs} {hp:Hf}
mutual
def uw (K:Nat) (D:AV) (L:Nat->AV):AV->AV
 | .ms k s lo n=>sel (Nat.beq k K) (sel (Nat.beq lo 0) D .undef) (.ms k s lo n)
 | .loc k off=>sel (Nat.beq k K) (L off) (.loc k off)
 | .el k s j f=>sel (Nat.beq k K) .undef (.el k s j f)
 | .mp k=>sel (Nat.beq k K) .undef (.mp k)
 | .it k=>sel (Nat.beq k K) .undef (.it k)
 | .agg cs=>.agg (jU K D L cs)
 | .tup cs=>.tup (jU K D L cs)
 | .fn i a c=>.fn i (jU K D L a) (jU K D L c)
 | .ifc t x=>.ifc t (uw K D L x)
 |x=>x
def jU (K:Nat) (D:AV) (L:Nat->AV):List AV->List AV
 | []=> []
 |x::l=>uw K D L x::jU K D L l
end
mutual
def zR (K:Nat):AV->List (Nat×Nat)
 | .ms k s lo n=>sel (Nat.beq k K) (sel (Nat.beq lo 0) [(s,n)] []) []
 | .agg cs=>lh K cs
 | .tup cs=>lh K cs
 | .fn _ a c=>lh K a++lh K c
 | .ifc _ x=>zR K x
 |_=> []
def lh (K:Nat):List AV->List (Nat×Nat)
 | []=> []
 |x::l=>zR K x++lh K l
end
structure EC (F F':Hf) (g:Gb) (K:Nat) (D:AV) (L:Nat->AV) (s m:Nat):Prop where
 le:Hle F F'
 ms:∀v,VA F g v (.ms K s 0 m)->VA F' g v D
 loc:∀v off,VA F g v (.loc K off)->VA F' g v (L off)
mutual
theorem VA.frz {K:Nat} {D:AV} {L:Nat->AV} {s m:Nat} (z:EC F F' g K D L s m):∀{x:AV} {v:SV},VA F g v x->(∀q∈zR K x,q=(s,m))->VA F' g v (uw K D L x)
 | .ms k s' lo n,v,hv,ho=>by
  show VA F' g v (sel (Nat.beq k K) (sel (Nat.beq lo 0) D .undef) (.ms k s' lo n));rw[aC,aC];split
  ·rename_i e;obtain rfl:=(beq_iff _ _).1 e;split
   ·rename_i e;obtain rfl:=(beq_iff _ _).1 e;have:=ho (s',n) (by
     show (s',n)∈sel (Nat.beq k k) (sel (Nat.beq 0 0) [(s',n)] []) [];rw[show Nat.beq k k=true from (beq_iff _ _).2 rfl];exact List.mem_singleton.2 rfl)
    cases this;exact z.ms v hv
   ·exact .undef v
  ·exact hv.mono z.le
 | .loc k off,v,hv,_=>by
  show VA F' g v (sel (Nat.beq k K) (L off) (.loc k off));rw[aC];split
  ·rename_i e;obtain rfl:=(beq_iff _ _).1 e;exact z.loc v off hv
  ·exact hv.mono z.le
 | .el k _ _ _,v,hv,_=>by
  show VA F' g v (sel (Nat.beq k K) .undef (.el k _ _ _));rw[aC];split
  ·exact .undef v
  ·exact hv.mono z.le
 | .mp k,v,hv,_=>by
  show VA F' g v (sel (Nat.beq k K) .undef (.mp k));rw[aC];split
  ·exact .undef v
  ·exact hv.mono z.le
 | .it k,v,hv,_=>by
  show VA F' g v (sel (Nat.beq k K) .undef (.it k));rw[aC];split
  ·exact .undef v
  ·exact hv.mono z.le
 | .agg cs,_,hv,ho=>by cases hv with|agg h=>exact .agg (VAs.frz z h ho)
 | .tup cs,_,hv,ho=>by cases hv with|tup h=>exact .tup (VAs.frz z h ho)
 | .fn i a c,_,hv,ho=>by
  cases hv with|fn _ h1 h2=>
   exact .fn i (VAs.frz z h1 fun q hq=>ho q (List.mem_append_left _ hq)) (VAs.frz z h2 fun q hq=>ho q (List.mem_append_right _ hq))
 | .ifc t x,_,hv,ho=>by cases hv with|ifc _ h=>exact .ifc t (VA.frz z h ho)
 | .bool _,_,hv,_| .int _ _,_,hv,_| .str _,_,hv,_| .slice _ _ _,_,hv,_| .sln _ _ _,_,hv,_| .slf _ _ _,_,hv,_| .slx _ _ _,_,hv,_| .imm _,_,hv,_| .aU,_,hv,_| .cU,_,hv,_| .cV,_,hv,_| .dt,_,hv,_| .cW,_,hv,_| .undef,_,hv,_=>hv.mono z.le
theorem VAs.frz {K:Nat} {D:AV} {L:Nat->AV} {s m:Nat} (z:EC F F' g K D L s m):∀{xs:List AV} {vs:List SV},VAs F g vs xs->(∀q∈lh K xs,q=(s,m))->VAs F' g vs (jU K D L xs)
 | [],_,hv,_=>by cases hv;exact .nil
 |x::l,_,hv,ho=>by
  cases hv with|cons h t=>
   exact .cons (VA.frz z h fun q hq=>ho q (List.mem_append_left _ hq)) (VAs.frz z t fun q hq=>ho q (List.mem_append_right _ hq))
end
def bE {α:Type} (K:Nat):List (Nat×α)->List (Nat×α)
 | []=> []
 |p::l=>sel (Nat.beq p.1 K) (bE K l) (p::bE K l)
theorem du {α:Type} (K k:Nat):∀l:List (Nat×α),lk k (bE K l)=if k=K then none else lk k l
 | []=>by split<;>rfl
 |(j,x)::l=>by
  show lk k (sel (Nat.beq j K) (bE K l) ((j,x)::bE K l))=_;rw[aC];split
  ·rename_i e;obtain rfl:=(beq_iff _ _).1 e;rw[du j k l,aW];split<;>rfl
  ·rename_i e;have hj:j≠K:=fun c=>e ((beq_iff _ _).2 c)
   rw[aW,aW,du K k l];by_cases hk:k=j
   ·rw[if_pos hk,if_pos hk,if_neg (fun c=>hj (hk ▸ c))]
   ·rw[if_neg hk,if_neg hk]
def Bx.frz (K:Nat) (D:AV) (L:Nat->AV):Bx->Bx
 | .flat e cs=>.flat e (jU K D L cs)
 | .hole e s Q i x=>.hole e s Q i (uw K D L x)
 | .own e e' s Q o=>.own e e' s Q (DQ (uw K D L) o)
 |b=>b
def Bx.occ (K:Nat):Bx->List (Nat×Nat)
 | .flat _ cs=>lh K cs
 | .hole _ _ _ _ x=>zR K x
 | .own _ _ _ _ (some p)=>zR K p.2
 |_=> []
def LS.frz (s:LS) (K:Nat) (D:AV) (L:Nat->AV):LS:=⟨s.ts.map fun p=>(p.1,uw K D L p.2),(bE K s.bs).map fun p=>(p.1,Bx.frz K D L p.2)⟩
def zP (K:Nat):List (Nat×AV)->List (Nat×Nat)
 | []=> []
 |p::l=>zR K p.2++zP K l
def r8 (K:Nat):List (Nat×Bx)->List (Nat×Nat)
 | []=> []
 |p::l=>p.2.occ K++r8 K l
theorem Ky {K t:Nat} {x:AV}:∀{l:List (Nat×AV)},(t,x)∈l->∀q∈zR K x,q∈zP K l
 |p::l,h,q,hq=>by
  rcases List.mem_cons.1 h with rfl|h
  ·exact List.mem_append_left _ hq
  ·exact List.mem_append_right _ (Ky h q hq)
theorem Kz {K t:Nat} {x:Bx}:∀{l:List (Nat×Bx)},(t,x)∈l->∀q∈x.occ K,q∈r8 K l
 |p::l,h,q,hq=>by
  rcases List.mem_cons.1 h with rfl|h
  ·exact List.mem_append_left _ hq
  ·exact List.mem_append_right _ (Kz h q hq)
theorem Rel.frz (r:Rel B F g φ s tm h) {K:Nat} {b:Bx} {D:AV} {L:Nat->AV} {sz m:Nat} (hb:lk K s.bs=some b) (hp:B.pk K=false) (ho:∀q∈zP K s.ts++r8 K s.bs,q=(sz,m))
  (hz:∀F',Hle F F'->(∀i∈φ K,F' i=h.hp.get i)->cD F g h.hp.get K b (φ K)->EC F F' g K D L sz m):∃F',Hle F F'/\Rel B F' g φ (s.frz K D L) tm h:=by
 let F':Hf:=fun i=>if i∈φ K then h.hp.get i else F i
 have hF:Hle F F':=fun id o ho=>by
  show (if id∈φ K then h.hp.get id else F id)=some o
  split
  ·exact r.sub id o ho
  ·exact ho
 have z:=hz F' hF (fun i hi=>if_pos hi) (r.bx K b hb)
 have hm:∀i∈φ K,B.nx<=i:=fun i hi=>(r.gJ K b hb i hi).elim (fun c=>by have:=c.1;rw[hp] at this;cases this) fun c=>c
 have back:∀{k b'},lk k (s.frz K D L).bs=some b'->k≠K/\∃b0,lk k s.bs=some b0/\b'=Bx.frz K D L b0:=fun {k b'} hk=>by
  rw[show (s.frz K D L).bs=(bE K s.bs).map fun p=>(p.1,Bx.frz K D L p.2) from rfl,gT,du] at hk
  split at hk
  ·cases hk
  ·rename_i hne;obtain ⟨b0,h0,rfl⟩:=Option.map_eq_some_iff.1 hk;exact ⟨hne,b0,h0,rfl⟩
 refine ⟨F',hF,fun t y hy hn=> ?_,fun k b' hk=> ?_,fun k k' b1 b2 h1 h2 hne=> ?_,fun k b' hk i hi=> ?_,fun i o hi=> ?_,r.bd,r.nx,r.old,r.f0.trans hF,fun i o hi=> ?_,fun k b' hk=> ?_,r.lg,r.pin⟩
 ·rw[show (s.frz K D L).ts=s.ts.map fun p=>(p.1,uw K D L p.2) from rfl,gT] at hy
  obtain ⟨x,hx,rfl⟩:=Option.map_eq_some_iff.1 hy;by_cases hu:x= .undef
  ·subst hu;exact absurd rfl hn
  ·obtain ⟨v,v1,v2⟩:=r.tm t x hx hu;exact ⟨v,v1,v2.frz z fun q hq=>ho q (List.mem_append_left _ (Ky (nV hx) q hq))⟩
 ·obtain ⟨hne,b0,h0,rfl⟩:=back hk;have hq:=r.bx k b0 h0;have hoc:∀q∈b0.occ K,q=(sz,m):=fun q hq=>ho q (List.mem_append_right _ (Kz (nV h0) q hq))
  generalize φ k=fp at hq ⊢;cases hq with
  |flat hh q=>exact .flat hh (q.frz z hoc)
  |cH hb=>exact .cH hb
  |rows hb hh hz hu hc q=>exact .rows hb hh hz hu hc (q.mono hF)
  |map hh q1 q2=>exact .map hh (q1.mono hF) (q2.mono hF)
  |iter hh=>exact .iter hh
  |hole hb hh hu hc q hi hv hx=>exact .hole hb hh hu hc (q.mono hF) hi hv (hx.frz z hoc)
  |jq hb=>exact .jq hb
  |own hb hh hc q nd ho=>
   refine .own hb hh hc (q.fL hF fun _ _=>rfl) nd fun i x e=> ?_
   obtain ⟨y,e1,rfl⟩:=nU e;subst e1;obtain ⟨a,v,b,c⟩:=ho i y rfl;exact ⟨a,v,b,c.frz z hoc⟩
 ·obtain ⟨_,c1,d1,_⟩:=back h1;obtain ⟨_,c2,d2,_⟩:=back h2;exact r.dj k k' c1 c2 d1 d2 hne
 ·obtain ⟨hne,b0,h0,rfl⟩:=back hk;show (if i∈φ K then h.hp.get i else F i)=none
  rw[if_neg (r.dj k K b0 b h0 hb hne i hi)];exact r.nf k b0 h0 i hi
 ·have hi:(if i∈φ K then h.hp.get i else F i)=some o:=hi
  split at hi
  ·exact hi
  ·exact r.sub i o hi
 ·have hi:(if i∈φ K then h.hp.get i else F i)=some o:=hi
  split at hi
  ·rename_i hc;exact .inr (hm i hc)
  ·exact r.fn i o hi
 ·obtain ⟨_,b0,h0,_⟩:=back hk;exact r.gJ k b0 h0
def zM (x:Bool) (e:TypeId) (s:Nat) (Q:Option (List (List AV))):List AV:=match Q with|some Q=> [sel x (.slx e s Q) (.slice e s Q)]|none=> [.undef]
def Ed (x:Bool):Bx->AV
 | .rows true e s Q=>.sln e s Q
 | .rows false e s Q=>.slice e s Q
 | .own e e' s Q _=>.slice e 1 (Q.map (zM x e' s))
 |_=>.undef
def uv (b:Bx):AV:=Ed false b
def frzL:Bx->Nat->AV
 | .flat _ cs,off=>sel (Nat.ble off cs.length) (.imm (cs.drop off)) .undef
 |_,_=>.undef
def Lx:Bx->Nat×Nat
 | .rows _ _ s Q=>(s,Q.length)
 | .own _ _ _ Q _=>(1,Q.length)
 |_=>(0,0)
theorem E1 {x:Bool} {e:TypeId} {s:Nat}:∀Q:List (Option (List (List AV))),(∀r∈Q.map (zM x e s),r.length=1)
 | [],r,h=>by cases h
 |q::Q,r,h=>by
  rw[List.map_cons] at h;rcases List.mem_cons.1 h with e|h
  ·rw[e];cases q<;>rfl
  ·exact E1 Q r h
theorem gB.data {x:Bool} {e:TypeId} {s:Nat} (hF:Hle F F'):∀{vs:List SV} {Q:List (Option (List (List AV)))} {fs:List (List Nat)},gB F hp e s vs Q fs->(∀i∈fs.flatten,F' i=hp i)->VAs F' .no vs (Q.map (zM x e s)).flatten
 |_,_,_,.nil,_=>.nil
 |_,_,_,.cons q t,hi=>by
  have t':=t.data (x:=x) hF fun i h=>hi i (by rw[List.flatten_cons];exact List.mem_append_right _ h)
  cases q with
  |any=>exact .cons (.undef _) t'
  |nil=>exact .cons (by cases x;exact .iv e s;exact .mf e s) t'
  | @sl id c svs Q hh hu hc q=>
   have hF0:=(hi id (by simp)).trans hh
   have hle:=eA hc;refine .cons ?_ t';cases x
   ·exact .slice (fy hF0) (xQ hc) rfl hu (by omega) (by rw[List.drop_zero];exact q.mono hF)
   ·exact .slx (fy hF0) (xQ hc) rfl hu (by omega) (by rw[List.drop_zero];exact q.mono hF)
def fH:Bx->Bool
 | .flat _ cs=>(cQ cs).isEmpty
 |_=>true
theorem Xm {e:TypeId} {n:Nat} {c:Cp} (h:oD e n c):oD e n (j3 c 0):=by cases c<;>exact h
theorem td {x:Bool} {K:Nat} {b:Bx} {fp:List Nat} (hF:Hle F F') (hk:fH b=true) (hi:∀i∈fp,F' i=hp i) (q:cD F g hp K b fp):EC F F' g K (Ed x b) (frzL b) (Lx b).1 (Lx b).2:=by
 refine ⟨hF,fun v hv=> ?_,fun v off hv=> ?_⟩
 ·cases q with
  |flat|map|iter|hole=>exact .undef v
  | @jq e e' s hb=>
   have hv:VA F g v (.ms K 1 0 0):=hv;cases hv with
   |msN=>exact .iv e 1
   |msE _ _ h0=>cases h0
   |ms _ _ _ hb'=>rw[hb] at hb';cases hb'
  | @own e e' s Q o svs fs hb hh hc q nd ho=>
   have hv:VA F g v (.ms K 1 0 Q.length):=hv;generalize hm:Q.length=m at hv;cases hv with
   |msN s hb'=>rw[hb] at hb';cases hb'
   |msE _ _ h0=>cases h0
   |ms _ _ _ hb'=>
    subst hm;have hF0:=(hi (g.ρ K) (by simp)).trans hh
    have hl:=eA hc;refine .slice (fy hF0) (Xm (xQ hc)) (by rw[List.length_map]) (E1 Q) (by omega) ?_
    rw[Nat.zero_mul,List.drop_zero,Nat.mul_one];exact q.data hF fun i h=>hi i (List.mem_cons_of_mem _ h)
  | @cH z e s hb=>
   have hv:VA F g v (.ms K s 0 0):=hv;cases hv with
   |msN=>cases z;exact .iv e s;exact .mR e s
   |msE _ _ h0=>cases h0
   |ms _ _ _ hb'=>rw[hb] at hb';cases hb'
  | @rows z e s Q svs hb hh hz hu hc q=>
   have hv:VA F g v (.ms K s 0 Q.length):=hv;have hl:=eA hc;generalize hm:Q.length=m at hv;cases hv with
   |msN s hb'=>rw[hb] at hb';cases hb'
   |msE _ _ h0=>cases h0
   |ms _ _ _ hb'=>
    subst hm;have hF0:=(hi (g.ρ K) (by simp)).trans hh
    have hct:oD e Q.length (j3 (g.κ K) 0):=by have:=xQ hc;cases hκ:g.κ K<;>rw[hκ] at this<;>exact this
    rw[Nat.zero_mul];cases z
    ·exact .slice (fy hF0) hct rfl hu (by omega) (by rw[List.drop_zero];exact q.mono hF)
    ·exact .sln (fy hF0) hct rfl (hz rfl) hu (by omega) (by rw[List.drop_zero];exact q.mono hF)
 ·cases q with
  |cH|rows|map|iter|hole|own|jq=>exact .undef v
  | @flat e cs svs hh q=>
   show VA F' g v (sel (Nat.ble off cs.length) (.imm (cs.drop off)) .undef);rw[aC];split
   ·rename_i hle;have hle:off<=cs.length:=Nat.le_of_ble_eq_true hle;cases hv;have hk:(cQ cs).isEmpty=true:=hk;have q0:VAs F .no svs cs:=q.gb (fun k hk'=>by rw[List.isEmpty_iff.1 hk] at hk';cases hk')
    refine .imm (fy ((hi (g.ρ K) (by simp)).trans hh)) (by rw[List.length_drop,q.length];omega) ?_
    have:=(q0.mono hF).drop off;rw[<-this.length,List.take_length];exact this
   ·exact .undef v
end
section
variable {F F':Hf} {g g':Gb} {B:Bs} {φ:Nat->List Nat} {s s' s1:LS} {tm:Tf} {h:Hs} {hp:Hf} {E:Env} {nt:Nat} {all l:List Oper}
def gN (E:Env) (nt:Nat) (B:Bs) (all l:List Oper) (s s':LS):Prop:=
 ∀(F:Hf) (g:Gb) (φ:Nat->List Nat) (tm:Tr SV) (h:Hs),Rel B F g φ s tm.get h->∃F' g' φ' tm' h',Rel B F' g' φ' s' (Tr.get tm') h'/\bw E (.ops nt all l tm [] h) (.code .normal tm' [] h')
def LS.bB (s:LS) (d:Option Nat) (x:AV):LS:= @Option.rec Nat (fun _=>LS) s (fun d=>s.put d x) d
theorem Rel.bB {tm:Tr SV} (r:Rel B F g φ s tm.get h) {d:Option Nat} {v:SV} {x:AV} (hv:x≠ .undef->VA F g v x):Rel B F g φ (s.bB d x) (bB tm d v).get h:=by
 cases d with
 |none=>exact r
 |some d=>exact r.put (fun t=>Tr.dv _ _ _ _) hv
theorem gN.nil:gN E nt B all [] s s:=fun F g φ tm h r=>⟨F,g,φ,tm,h,r,.afT⟩
mutual
def Es:Value->AV
 | .bool b=>.bool b
 | .int k n=>.int k n
 | .string s=>.str s
 | .pointer none=>.cU
 | .slice none 0 0=>.aU
 | .map none=>.cV
 | .nilFunc=>.dt
 | .nilIface=>.cW
 | .agg ⟨cs⟩=>sel (cs.all Value.oneCell') (.agg (qE cs)) .undef
 | .tuple ⟨cs⟩=>.tup (qE cs)
 |_=>.undef
def qE:List Value->List AV
 | []=> []
 |v::vs=>Es v::qE vs
end
mutual
theorem LZ:∀(v:Value),VA F g (kB v) (Es v)
 | .bool b=>.bool b
 | .int k n=>.int k n
 | .string s=>.str s
 | .pointer none=>.cU
 | .slice none 0 0=>.aU
 | .map none=>.cV
 | .nilFunc=>.dt
 | .nilIface=>.cW
 | .agg ⟨cs⟩=>by
  show VA F g (sel (cs.all Value.oneCell') (.agg (g4 cs)) .undef) (sel (cs.all Value.oneCell') (.agg (qE cs)) .undef);rw[aC,aC];split
  ·exact .agg (wN cs)
  ·exact .undef _
 | .tuple ⟨cs⟩=>.tup (wN cs)
 | .pointer (some _)=>.undef _
 | .slice (some _) _ _=>.undef _
 | .slice none 0 (_+1)=>.undef _
 | .slice none (_+1) _=>.undef _
 | .map (some _)=>.undef _
 | .func _ _ _=>.undef _
 | .iface _ _=>.undef _
 | .float _ _=>.undef _
 | .complex _ _ _=>.undef _
 | .chan _=>.undef _
theorem wN:∀(vs:List Value),VAs F g (g4 vs) (qE vs)
 | []=>.nil
 |v::vs=>.cons (LZ v) (wN vs)
end
def qZ (o:Option AV):AV:= @Option.rec AV (fun _=>AV) .undef (fun x=>x) o
def aL (ts:List (Nat×AV)):Operand->AV
 | .tmp t=>qZ (lk t ts)
 | .const v=>Es v
 | .global _=>.undef
 | .func f=>.fn f [] []
theorem Rel.val (r:Rel B F g φ s tm h) {x:Operand} {y:AV} (he:aL s.ts x=y) (hx:y≠ .undef):∃v,aM tm x=some v/\VA F g v y:=by
 subst he;cases x with
 |tmp t=>
  have hx:qZ (lk t s.ts)≠ .undef:=hx;show ∃v,tm t=some v/\VA F g v (qZ (lk t s.ts));cases hl:lk t s.ts with
  |none=>rw[hl] at hx;exact absurd rfl hx
  |some y=>rw[hl] at hx;exact r.tm t y hl hx
 |const v=>exact ⟨_,rfl,LZ v⟩
 |global n=>exact absurd rfl hx
 |func f=>exact ⟨_,rfl,.fn f .nil .nil⟩
def fO (ts:List (Nat×AV)):List Operand->List AV
 | []=> []
 |x::l=>aL ts x::fO ts l
def pN:AV->Bool
 | .undef=>true
 |_=>false
theorem Bz {x:AV} (h:pN x=false):x≠ .undef:=fun e=>by subst e;cases h
def eQ:List AV->Bool
 | []=>true
 |x::l=>sel (pN x) false (eQ l)
theorem vU {x:AV} {l:List AV} (h:eQ (x::l)=true):x≠ .undef/\eQ l=true:=by
 have h:sel (pN x) false (eQ l)=true:=h;cases hx:pN x with
 |true=>rw[hx] at h;cases h
 |false=>rw[hx] at h;exact ⟨Bz hx,h⟩
theorem Rel.bT (r:Rel B F g φ s tm h):∀{xs:List Operand},eQ (fO s.ts xs)=true->∃vs,bT tm xs=some vs/\VAs F g vs (fO s.ts xs)
 | [],_=>⟨[],rfl,.nil⟩
 |x::l,hu=>by
  obtain ⟨u1,u2⟩:=vU (x:=aL s.ts x) (l:=fO s.ts l) hu;obtain ⟨v,h1,h2⟩:=r.val rfl u1;obtain ⟨vs,h3,h4⟩:=r.bT (xs:=l) u2;refine ⟨v::vs,?_,.cons h2 h4⟩;show aG (aM tm x) (Go.Sim.bT tm l) (fun v l=>some (v::l))=_
  rw[h1,h3];rfl
def Ay (want:Bool):AV->Option Bool
 | .bool b=>some (b==want)
 | .tup _=>some false
 |_=>none
def jo (all:List Oper) (p:Oper) (ts:List (Nat×AV)):Option Bool:= @Option.rec (Nat×Bool) (fun _=>Option Bool) (some true) (fun q=> @Option.rec Nat (fun _=>Option Bool) (some false) (fun t=>Ay q.2 (qZ (lk t ts))) (qk all q.1)) p.guard
theorem pC {tm:Tr SV} (r:Rel B F g φ s tm.get h) {p:Oper} {b:Bool} (hw:jo all p s.ts=some b):cg all p tm.get=some b:=by
 unfold jo at hw;unfold cg;cases hg:p.guard with
 |none=>rw[hg] at hw;exact hw
 |some q=>
  rw[hg] at hw;show lV all tm.get q.1 q.2=some b;unfold lV;have hw: @Option.rec Nat (fun _=>Option Bool) (some false) (fun t=>Ay q.2 (qZ (lk t s.ts))) (qk all q.1)=some b:=hw
  cases hd:qk all q.1 with
  |none=>rw[hd] at hw;exact hw
  |some t=>
   rw[hd] at hw;have hw:Ay q.2 (qZ (lk t s.ts))=some b:=hw;show aj (tm.get t) (P2 q.2)=some b;cases hl:lk t s.ts with
   |none=>rw[hl] at hw;cases hw
   |some y=>
    rw[hl] at hw;have hw:Ay q.2 y=some b:=hw;obtain ⟨v,v1,v2⟩:=r.tm t y hl (fun e=>by rw[e] at hw;cases hw)
    rw[v1];cases y<;>first|(cases hw;done)|skip
    ·cases v2;exact hw
    ·cases v2;exact hw
def Upd (h:Hs) (us:List Up) (new:Nat) (h':Hs):Prop:=(∀y,h'.hp.get y=(h.ups us).hp.get y)/\h.nx<=h'.nx/\new<h'.nx/\∀y∈h'.lg,y∈(h.ups us).lg
def Gb.at (g:Gb) (K id:Nat) (c:Cp):Gb:=⟨fun k=>if k=K then id else g.ρ k,fun k=>if k=K then c else g.κ k,fun k=>if k=K then true else g.β k⟩
def Ak:SV->Cp
 | .sl _ _ _ c=>c
 |_=>.k 0
def dG (new:Nat) (us:List Up):Bool:=us.any fun u=>Nat.beq u.1 new
abbrev WK:=Option (Nat×Bool)
def qG (g:Gb) (W:WK) (new:Nat) (us:List Up) (v:SV):Gb:=
 match W with
 |none=>g
 |some q=>if dG new us=true then g.at q.1 new (Ak v) else g
def o9 (φ:Nat->List Nat) (W:WK) (new:Nat) (us:List Up):Nat->List Nat:=
 match W with
 |none=>φ
 |some q=>if dG new us=true then fun k=>if k=q.1 then [new] else φ k else φ
structure aP (E:Env) (B:Bs) (op:Op) (s s1:LS) (x:AV) (W:WK):Prop where
 go:∀{F:Hf} {g:Gb} {φ:Nat->List Nat} {tm:Tf} {h:Hs} {new:Nat},Rel B F g φ s tm h->h.hp.get new=none->B.nx<=new->∃v us,opA E op tm h.hp.get new=some (v,us)/\VA F (qG g W new us v) v x/\(∀h',Upd h us new h'\/(us= []/\h'=h)->Rel B F (qG g W new us v) (o9 φ W new us) s1 tm h')/\
  (∀u∈us,u.1=new\/∃K b,W=some (K,false)/\lk K s.bs=some b/\u.1∈φ K)/\(∀k b',lk k s1.bs=some b'->(∃b,lk k s.bs=some b)\/(dG new us=true/\∃l,W=some (k,l)))/\∀k,((∃b,lk k s.bs=some b)\/∃l,W=some (k,l))->∃b',lk k s1.bs=some b'
def sT (op:Op):Bool:=
 match dB op,xP op,xB op,Bk op with
 |none,none,none,none=>true
 |_,_,_,_=>false
theorem QE {op:Op} (h:sT op=true):dB op=none/\xP op=none/\xB op=none/\Bk op=none:=by
 unfold sT at h;split at h
 ·rename_i h1 h2 h3 h4;exact ⟨h1,h2,h3,h4⟩
 ·cases h
theorem afn {us:List Up}:Upd h us h.nx (h.fin us)\/(us= []/\h.fin us=h):=by
 cases us with
 |nil=>exact .inr ⟨rfl,rfl⟩
 |cons u us=>
  have hn:∀(us:List Up) (h:Hs),(h.ups us).nx=h.nx:=fun us=>by
   induction us with
   |nil=>exact fun _=>rfl
   |cons u us ih=>exact fun h=>ih (h.up u)
  refine .inl ⟨fun y=>rfl,?_,?_,fun y hy=>hy⟩
  ·show h.nx<=(h.ups (u::us)).nx+1;rw[hn];omega
  ·show h.nx<(h.ups (u::us)).nx+1;rw[hn];omega
theorem gN.op {p:Oper} {x:AV} {W:WK} (hd:cK nt p.dst=true) (hw:jo all p s.ts=some true) (hp:sT p.op=true) (hy:aP E B p.op s s1 x W) (hl:gN E nt B all l (s1.bB p.dst x) s'):gN E nt B all (p::l) s s':=fun F g φ tm h r=>by
 obtain ⟨h1,h2,h3,h4⟩:=QE hp;obtain ⟨v,us,v1,v2,r1,_⟩:=hy.go (new:=h.nx) r (r.bd _ (Nat.le_refl _)) r.nx;obtain ⟨F',g',φ',tm',h',r',q⟩:=hl F _ _ _ _ ((r1 _ afn).bB (d:=p.dst) fun _=>v2)
 exact ⟨F',g',φ',tm',h',r',.afS hd (pC r hw) h1 h2 h3 h4 v1 q⟩
theorem gN.skip {p:Oper} (hd:cK nt p.dst=true) (hw:jo all p s.ts=some false) (hl:gN E nt B all l (s.bB p.dst (.tup [])) s'):gN E nt B all (p::l) s s':=fun F g φ tm h r=>by
 obtain ⟨F',g',φ',tm',h',r',q⟩:=hl F g φ _ h (r.bB (d:=p.dst) fun _=>.tup .nil)
 exact ⟨F',g',φ',tm',h',r',.aeu hd (pC r hw) q⟩
structure df (B:Bs) (s s1:LS):Prop where
 go:∀{F:Hf} {g:Gb} {φ:Nat->List Nat} {tm:Tf} {h:Hs},Rel B F g φ s tm h->∃F' g' φ',Rel B F' g' φ' s1 tm h
theorem gN.ghost (hg:df B s s1) (hl:gN E nt B all l s1 s'):gN E nt B all l s s':=fun F g φ tm h r=>by
 obtain ⟨F',g',φ',r'⟩:=hg.go r;exact hl F' g' φ' tm h r'
theorem df.less (hw:kQ s s1):df B s s1:=.mk fun {F g φ _ _} r=>⟨F,g,φ,r.less hw⟩
theorem df.refl:df B s s:=.mk fun {F g φ _ _} r=>⟨F,g,φ,r⟩
theorem df.trans {s2:LS} (a:df B s s1) (b:df B s1 s2):df B s s2:=.mk fun r=>by
 obtain ⟨_,_,_,r1⟩:=a.go r;exact b.go r1
theorem iS {i:Nat} {o:Option SO} (x:Nat):(h.ups [(i,o)]).hp.get x=if x=i then o else h.hp.get x:=by
 show (h.hp.set i o).get x=_;rw[Tr.dv]
theorem CZ {i:Nat} {o:Option SO}:(h.ups [(i,o)]).lg=i::h.lg:=rfl
theorem aP.pure {op:Op} {x:AV} (hy:∀{F:Hf} {g:Gb} {φ:Nat->List Nat} {tm:Tf} {h:Hs} {new:Nat},Rel B F g φ s tm h->∃v,opA E op tm h.hp.get new=some (v,[])/\VA F g v x):aP E B op s s x none:=aP.mk fun {F g φ tm h new} r h1 h2=>by
 obtain ⟨v,v1,v2⟩:=hy (new:=new) r;refine ⟨v,[],v1,v2,fun h' hu=> ?_,fun u hu=>(by cases hu),fun k b' hb=>.inl ⟨b',hb⟩,fun k hk=>hk.elim (fun x=>x) fun ⟨l,hl⟩=>by cases hl⟩
 show Rel B F g φ s tm h';rcases hu with ⟨u1,u2,u3,u4⟩|⟨_,rfl⟩
 ·exact {r with bx:=fun k b hb=>(r.bx k b hb).fL (Hle.refl F) fun i _=>u1 i,sub:=fun id o ho=>(u1 id).trans (r.sub id o ho),bd:=fun x hx=>(u1 x).trans (r.bd x (Nat.le_trans u2 hx)),nx:=Nat.le_trans r.nx u2,old:=fun x hx hp=>(u1 x).trans (r.old x hx hp),lg:=fun x hx=>r.lg x (u4 x hx)}
 ·exact r
theorem lv {K id:Nat} {c:Cp}:(g.at K id c).ρ K=id:=by simp[Gb.at]
theorem adK {K id:Nat} {c:Cp}:(g.at K id c).κ K=c:=by simp[Gb.at]
theorem adL {K id:Nat} {c:Cp}:(g.at K id c).β K=true:=by simp[Gb.at]
theorem Sv {K id k:Nat} {c:Cp} (hk:k≠K):fT g (g.at K id c) [k]:=fun j hj=>by
 have:j≠K:=by rw[List.mem_singleton.1 hj];exact hk
 simp[Gb.at,this]
theorem aeY {K id:Nat} {c:Cp} {ks:List Nat} (h:K∉ks):fT g (g.at K id c) ks:=fun k hk=>by
 have:k≠K:=fun e=>h (e ▸ hk)
 simp[Gb.at,this]
theorem pK {K k:Nat} {b:Bx} (hk:(∃b,lk k s.bs=some b)\/k=K):∃b',lk k (s.set K b).bs=some b':=by
 rw[show (s.set K b).bs=(K,b)::s.bs from rfl,aW];split
 ·exact ⟨_,rfl⟩
 ·rename_i e;exact hk.elim (fun x=>x) fun e'=>absurd e' e
theorem ry {new:Nat} {us:List Up} {o:Option SO} (h:(new,o)∈us):dG new us=true:=List.any_eq_true.2 ⟨_,h,(beq_iff _ _).2 rfl⟩
theorem wo {new:Nat} {us:List Up} (h:∀u∈us,u.1≠new):dG new us=false:=by
 cases hn:dG new us with
 |false=>rfl
 |true=>
  obtain ⟨u,hu,he⟩:=List.any_eq_true.1 hn;exact absurd ((beq_iff _ _).1 he) (h u hu)
theorem Al {K:Nat} {l:Bool} {new:Nat} {us:List Up} {v:SV} (h:dG new us=true):qG g (some (K,l)) new us v=g.at K new (Ak v):=if_pos h
theorem Fy {K:Nat} {l:Bool} {new:Nat} {us:List Up} (h:dG new us=true):o9 φ (some (K,l)) new us=fun k=>if k=K then [new] else φ k:=if_pos h
theorem nh {W:WK} {new:Nat} {us:List Up} {v:SV} (h:dG new us=false):qG g W new us v=g:=by
 cases W with
 |none=>rfl
 |some q=>show (if dG new us=true then _ else g)=g;rw[h];rfl
theorem wR {W:WK} {new:Nat} {us:List Up} (h:dG new us=false):o9 φ W new us=φ:=by
 cases W with
 |none=>rfl
 |some q=>show (if dG new us=true then _ else φ)=φ;rw[h];rfl
theorem aP.lay {op:Op} {x:AV} {K:Nat} {b:Bx} (hk:s.free K) (hp:B.pk K=false)
  (hy:∀{F:Hf} {g:Gb} {φ:Nat->List Nat} {tm:Tf} {h:Hs} {new:Nat},Rel B F g φ s tm h->∃v o,opA E op tm h.hp.get new=some (v,[(new,some o)])/\VA F (g.at K new (Ak v)) v x/\∀hp':Hf,hp' new=some o->cD F (g.at K new (Ak v)) hp' K b [new]):aP E B op s (s.set K b) x (some (K,true)):=aP.mk fun {F g φ tm h new} r h1 h2=>by
 obtain ⟨v,o,v1,v2,v3⟩:=hy (new:=new) r;have hn:dG new [(new,some o)]=true:=ry List.mem_cons_self;refine ⟨v,_,v1,by rw[Al hn];exact v2,fun h' hu=> ?_,fun u hu=>.inl (by rw[List.mem_singleton.1 hu]),fun k b' hb=> ?_,fun k hk=>pK (hk.elim .inl fun ⟨l,hl⟩=>.inr (by cases hl;rfl))⟩
 rotate_left
 ·by_cases e:k=K
  ·subst e;exact .inr ⟨hn,true,rfl⟩
  ·rw[show (s.set K b).bs=(K,b)::s.bs from rfl,aW,if_neg e] at hb;exact .inl ⟨b',hb⟩
 rw[Al hn,Fy hn];rcases hu with ⟨u1,u2,u3,u4⟩|⟨hc,_⟩
 ·exact r.chg (K:=K) (b':=b) (fo:= []) (fp:= [new]) (g':=g.at K new (Ak v)) (h':=h') (fun i hi=>by cases hi) (fun i hi=>.inr (by rw[List.mem_singleton.1 hi];exact ⟨h1,h2⟩))
   (fun x _ hx=>by rw[u1,iS,if_neg (fun e=>hx (by simp[e]))]) u2 (fun x hx=>by rw[u1,iS,if_neg (by omega)];exact r.bd x (by omega)) (fun x hx=>by have:=u4 x hx;rw[CZ] at this;rcases List.mem_cons.1 this with rfl|hx;exact .inr (.inr (by simp));exact .inl hx) (v3 _ (by rw[u1,iS,if_pos rfl])) (.inr ⟨hk,hp,fun k hne=>Sv hne⟩)
 ·cases hc
theorem kQ.agc {K:Nat} {b:Bx} (hb:lk K s.bs=some b):kQ s (s.set K b):=⟨fun t y hy=>.inr ⟨y,hy,WV.refl y⟩,fun k b' hb'=>by
 rw[show (s.set K b).bs=(K,b)::s.bs from rfl,aW] at hb';split at hb'
 ·rename_i e;cases hb';subst e;exact ⟨_,hb,WB.refl _⟩
 ·exact ⟨b',hb',WB.refl b'⟩⟩
theorem aP.wrO {op:Op} {x:AV} {K:Nat} {b b':Bx} (hb:lk K s.bs=some b)
  (hy:∀{F:Hf} {g:Gb} {φ:Nat->List Nat} {tm:Tf} {h:Hs} {new:Nat},Rel B F g φ s tm h->(∃v o,opA E op tm h.hp.get new=some (v,[(g.ρ K,some o)])/\VA F g v x/\φ K= [g.ρ K]/\∀hp':Hf,hp' (g.ρ K)=some o->cD F g hp' K b' [g.ρ K])\/∃v,opA E op tm h.hp.get new=some (v,[])/\VA F g v x/\b'=b):aP E B op s (s.set K b') x (some (K,false)):=aP.mk fun {F g φ tm h new} r h1 h2=>by
 rcases hy (new:=new) r with hy1|⟨v,v1,v2,e⟩
 rotate_left
 ·subst e;have less:kQ s (s.set K b'):=kQ.agc hb;refine ⟨v,[],v1,v2,fun h' hu=> ?_,fun u hu=>(by cases hu),fun k b2 hb2=> ?_,fun k hk=>pK (hk.elim .inl fun ⟨l,hl⟩=>.inr (by cases hl;rfl))⟩
  ·show Rel B F g φ _ tm h';rcases hu with ⟨u1,u2,u3,u4⟩|⟨_,rfl⟩
   ·exact Rel.less {r with bx:=fun k b hb=>(r.bx k b hb).fL (Hle.refl F) fun i _=>u1 i,sub:=fun id o ho=>(u1 id).trans (r.sub id o ho),bd:=fun x hx=>(u1 x).trans (r.bd x (Nat.le_trans u2 hx)),nx:=Nat.le_trans r.nx u2,old:=fun x hx hp=>(u1 x).trans (r.old x hx hp),lg:=fun x hx=>r.lg x (u4 x hx)} less
   ·exact r.less less
  ·by_cases e:k=K
   ·subst e;exact .inl ⟨b',hb⟩
   ·rw[show (s.set K b').bs=(K,b')::s.bs from rfl,aW,if_neg e] at hb2;exact .inl ⟨b2,hb2⟩
 obtain ⟨v,o,v1,v2,hφ,v3⟩:=hy1;have hlt:=r.lt hb (g.ρ K) (by simp[hφ])
 have hne:g.ρ K≠new:=fun e=>(r.bx K b hb).there (g.ρ K) (by simp[hφ]) (by rw[e];exact h1)
 have hn:dG new [(g.ρ K,some o)]=false:=wo fun u hu=>by rw[List.mem_singleton.1 hu];exact hne
 refine ⟨v,_,v1,by rw[nh hn];exact v2,fun h' hu=> ?_,fun u hu=>.inr ⟨K,b,rfl,hb,by rw[List.mem_singleton.1 hu,hφ];simp⟩,fun k b2 hb2=> ?_,fun k hk=>pK (hk.elim .inl fun ⟨l,hl⟩=>.inr (by cases hl;rfl))⟩
 rotate_left
 ·by_cases e:k=K
  ·subst e;exact .inl ⟨b,hb⟩
  ·rw[show (s.set K b').bs=(K,b')::s.bs from rfl,aW,if_neg e] at hb2;exact .inl ⟨b2,hb2⟩
 rw[nh hn,wR hn];rcases hu with ⟨u1,u2,u3,u4⟩|⟨hc,_⟩
 ·have:=r.chg (K:=K) (b':=b') (fo:= [g.ρ K]) (fp:= [g.ρ K]) (g':=g) (h':=h') (fun i hi=>⟨b,hb,by rw[hφ];exact hi⟩) (fun i hi=>.inl hi)
   (fun x _ hx=>by rw[u1,iS,if_neg (fun e=>hx (by simp[e]))]) u2 (fun x hx=>by rw[u1,iS,if_neg (by omega)];exact r.bd x (by omega)) (fun x hx=>by have:=u4 x hx;rw[CZ] at this;rcases List.mem_cons.1 this with rfl|hx;exact .inr (.inr (by simp));exact .inl hx) (v3 _ (by rw[u1,iS,if_pos rfl])) (.inl rfl)
  have e:(fun k=>if k=K then [g.ρ K] else φ k)=φ:=by
   funext k;by_cases hk:k=K
   ·rw[if_pos hk,hk,hφ]
   ·rw[if_neg hk]
  rwa[e] at this
 ·cases hc
theorem aP.wr {op:Op} {x:AV} {K:Nat} {b b':Bx} (hb:lk K s.bs=some b)
  (hy:∀{F:Hf} {g:Gb} {φ:Nat->List Nat} {tm:Tf} {h:Hs} {new:Nat},Rel B F g φ s tm h->∃v o,opA E op tm h.hp.get new=some (v,[(g.ρ K,some o)])/\VA F g v x/\φ K= [g.ρ K]/\∀hp':Hf,hp' (g.ρ K)=some o->cD F g hp' K b' [g.ρ K]):aP E B op s (s.set K b') x (some (K,false)):=aP.wrO hb fun r=>.inl (hy r)
theorem aP.wrM {op:Op} {x:AV} {K:Nat} {b b':Bx} (hb:lk K s.bs=some b)
  (hy:∀{F:Hf} {g:Gb} {φ:Nat->List Nat} {tm:Tf} {h:Hs} {new:Nat},Rel B F g φ s tm h->∃v o,opA E op tm h.hp.get new=some (v,[(g.ρ K,some o)])/\VA F g v x/\g.ρ K∈φ K/\∀hp':Hf,hp' (g.ρ K)=some o->(∀x,x≠g.ρ K->hp' x=h.hp.get x)->cD F g hp' K b' (φ K)):aP E B op s (s.set K b') x (some (K,false)):=aP.mk fun {F g φ tm h new} r h1 h2=>by
 obtain ⟨v,o,v1,v2,hφ,v3⟩:=hy (new:=new) r;have hlt:=r.lt hb (g.ρ K) hφ;have hne:g.ρ K≠new:=fun e=>(r.bx K b hb).there (g.ρ K) hφ (by rw[e];exact h1)
 have hn:dG new [(g.ρ K,some o)]=false:=wo fun u hu=>by rw[List.mem_singleton.1 hu];exact hne
 refine ⟨v,_,v1,by rw[nh hn];exact v2,fun h' hu=> ?_,fun u hu=>.inr ⟨K,b,rfl,hb,by rw[List.mem_singleton.1 hu];exact hφ⟩,fun k b2 hb2=> ?_,fun k hk=>pK (hk.elim .inl fun ⟨l,hl⟩=>.inr (by cases hl;rfl))⟩
 rotate_left
 ·by_cases e:k=K
  ·subst e;exact .inl ⟨b,hb⟩
  ·rw[show (s.set K b').bs=(K,b')::s.bs from rfl,aW,if_neg e] at hb2;exact .inl ⟨b2,hb2⟩
 rw[nh hn,wR hn];rcases hu with ⟨u1,u2,u3,u4⟩|⟨hc,_⟩
 ·have up:∀x,x≠g.ρ K->h'.hp.get x=h.hp.get x:=fun x hx=>by rw[u1,iS,if_neg hx]
  have:=r.chg (K:=K) (b':=b') (fo:=φ K) (fp:=φ K) (g':=g) (h':=h') (fun i hi=>⟨b,hb,hi⟩) (fun i hi=>.inl hi)
   (fun x _ hx=>up x fun e=>hx (e ▸ hφ)) u2 (fun x hx=>by rw[up x (by omega)];exact r.bd x (by omega)) (fun x hx=>by have:=u4 x hx;rw[CZ] at this;rcases List.mem_cons.1 this with rfl|hx;exact .inr (.inr hφ);exact .inl hx) (v3 _ (by rw[u1,iS,if_pos rfl]) up) (.inl rfl)
  have e:(fun k=>if k=K then φ K else φ k)=φ:=by
   funext k;by_cases hk:k=K
   ·rw[if_pos hk,hk]
   ·rw[if_neg hk]
  rwa[e] at this
 ·cases hc
theorem cY {α γ:Type} {x:Option α} {a:α} {f:α->Option γ} (h:x=some a):aj x f=f a:=by rw[h];rfl
theorem lQ {α β γ:Type} {x:Option α} {y:Option β} {a:α} {b:β} {f:α->β->Option γ} (h:x=some a) (k:y=some b):aG x y f=f a b:=by rw[h,k];rfl
end
section
variable {F F':Hf} {g g':Gb} {B:Bs} {φ:Nat->List Nat} {s s' s1:LS} {tm:Tf} {h:Hs} {hp:Hf} {E:Env} {nt:Nat} {all l:List Oper}
theorem aP.un {op:Op} {a:Operand} {f:Hf->SV->Option (SV×List Up)} {x y:AV} (hop:∀tm hp new,opA E op tm hp new=one tm a (f hp)) (ha:aL s.ts a=y) (hy:y≠ .undef)
  (hf:∀{F:Hf} {g:Gb} {φ:Nat->List Nat} {tm:Tf} {h:Hs} {v:SV},Rel B F g φ s tm h->VA F g v y->∃u,f h.hp.get v=some (u,[])/\VA F g u x):aP E B op s s x none:=aP.pure fun {F g φ tm h new} r=>by
 obtain ⟨v,v1,v2⟩:=r.val ha hy;obtain ⟨u,u1,u2⟩:=hf r v2;refine ⟨u,?_,u2⟩;rw[hop];unfold one;rw[v1];exact u1
theorem aP.bi {op:Op} {a b:Operand} {f:Hf->SV->SV->Option (SV×List Up)} {x y z:AV} (hop:∀tm hp new,opA E op tm hp new=two tm a b (f hp)) (ha:aL s.ts a=y) (hy:y≠ .undef) (hb:aL s.ts b=z) (hz:z≠ .undef)
  (hf:∀{F:Hf} {g:Gb} {φ:Nat->List Nat} {tm:Tf} {h:Hs} {v w:SV},Rel B F g φ s tm h->VA F g v y->VA F g w z->∃u,f h.hp.get v w=some (u,[])/\VA F g u x):aP E B op s s x none:=aP.pure fun {F g φ tm h new} r=>by
 obtain ⟨v,v1,v2⟩:=r.val ha hy;obtain ⟨w,w1,w2⟩:=r.val hb hz;obtain ⟨u,u1,u2⟩:=hf r v2 w2;refine ⟨u,?_,u2⟩;rw[hop];unfold two;rw[v1,w1];exact u1
def gi (i:TI) (cs:List AV) (off:Nat):Option AV:=
 sel (eG i.desc) (sel (Nat.ble (Nat.add off i.size) cs.length) (some (.agg ((cs.drop off).take i.size))) none) (cs[off]?)
theorem jL {i:TI} {vs:List SV} {cs:List AV} {off:Nat} {x:AV} (q:VAs F g vs cs) (hx:gi i cs off=some x):∃v,cO i vs off=some v/\VA F g v x:=by
 unfold gi at hx;unfold cO;rw[aC] at hx ⊢;split at hx
 ·rename_i ha;rw[if_pos ha];obtain ⟨hl,hx⟩:=ar hx;cases hx;rw[q.length,aC,if_pos hl];exact ⟨_,rfl,.agg ((q.drop off).take i.size)⟩
 ·rename_i ha;rw[if_neg ha];exact q.get hx
theorem zK {i:TI} {svs:List SV} {off n:Nat} {u:SV} (h:cO i ((svs.drop off).take n) 0=some u) (hl:off+n<=svs.length):cO i svs off=some u:=by
 unfold cO at h ⊢;rw[aC] at h ⊢;split at h
 ·rename_i ha;rw[if_pos ha];obtain ⟨hle,hu⟩:=ar h;have hle:0+i.size<=((svs.drop off).take n).length:=(bk _ _).1 hle;rw[List.length_take,List.length_drop] at hle;cases hu;rw[aC,if_pos (show Nat.ble (Nat.add off i.size) svs.length=true from (bk _ _).2 (show off+i.size<=svs.length by omega))]
  rw[List.drop_zero,List.take_take,Nat.min_eq_left (by omega)]
 ·rename_i ha;rw[if_neg ha];rw[List.getElem?_take] at h;split at h
  ·rw[List.getElem?_drop] at h;simpa using h
  ·cases h
def tf (E:Env) (s:TypeId) (f:Nat):Option (Nat×TI):=aj (E.ty.get s) fun i=>aj (mP i.desc) fun fs=>aj (fs[f]?) fun fl=>aj (E.ty.get fl.type) fun fi=>some (fl.off,fi)
theorem wD {t:TypeId} {f:Nat} {p:Nat×TI} (hf:tf E t f=some p):∃i fs fl,E.ty.get t=some i/\mP i.desc=some fs/\fs[f]? =some fl/\E.ty.get fl.type=some p.2/\fl.off=p.1:=by
 obtain ⟨i,hi,hf⟩:=af hf;obtain ⟨fs,hfs,hf⟩:=af hf;obtain ⟨fl,hfl,hf⟩:=af hf;obtain ⟨fi,hfi,hf⟩:=af hf;cases hf;exact ⟨i,fs,fl,hi,hfs,hfl,hfi,rfl⟩
def Xc (p:Nat×TI) (x:AV):Option AV:=
 sel (Nat.ble 1 p.2.size) (match x with
  | .loc K off=>some (.loc K (Nat.add off p.1))
  | .el K s j f=>some (.el K s j (Nat.add f p.1))
  | .imm cs=>sel (Nat.ble p.1 cs.length) (some (.imm (cs.drop p.1))) none
  |_=>none) none
theorem Zi {id off k:Nat} {cs:List AV} (q:VA F g (.ptr id off) (.imm cs)) (hk:k<=cs.length):VA F g (.ptr id (off+k)) (.imm (cs.drop k)):=by
 cases q with
 |imm hF hl hv=>
  refine .imm (kC hF (by omega) (by rw[List.length_drop];omega)) (by rw[List.length_drop];omega) ?_
  have:=hv.drop k;rw[List.drop_take,List.drop_drop] at this;rw[List.length_drop];exact this
theorem Kw {t:TypeId} {a:Operand} {f:Nat} {p:Nat×TI} {x y:AV} (hp:tf E t f=some p) (ha:aL s.ts a=y) (hx:Xc p y=some x):aP E B (.fieldAddr t a f) s s x none:=by
 obtain ⟨i,fs,fl,e1,e2,e3,e4,e5⟩:=wD hp;obtain ⟨hsz,hx⟩:=ar hx;refine aP.un (f:=fun _=>iN E t f) (fun _ _ _=>rfl) ha (fun e=>by subst e;cases hx) fun {F g φ tm h v} r hv=> ?_
 have key:∀id off,iN E t f (.ptr id off)=some (SV.ptr id (Nat.add off p.1),[]):=fun id off=>by
  unfold iN;rw[e1];show aj (mP i.desc) _=_;rw[e2];show aj (fs[f]?) _=_;rw[e3];show aj (E.ty.get fl.type) _=_;rw[e4];show sel (Nat.ble 1 p.2.size) (some (SV.ptr id (Nat.add off fl.off),[])) none=_;rw[hsz,e5]
 cases y with
 |loc K off=>
  cases hx;cases hv;exact ⟨_,key _ _,.loc K _⟩
 |el K sz j f'=>
  cases hx;cases hv with|el _ _ _ hb0=>
  refine ⟨_,key _ _,?_⟩;rw[show Nat.add (j*sz+f') p.1=j*sz+Nat.add f' p.1 from Nat.add_assoc _ _ _];exact .el sz j _ hb0
 |imm cs=>
  obtain ⟨hk,hx⟩:=ar (show sel (Nat.ble p.1 cs.length) (some (.imm (cs.drop p.1))) none=some x from hx);cases hx;have hv':∃id off,v=SV.ptr id off:=by cases hv;exact ⟨_,_,rfl⟩
  obtain ⟨id,off,rfl⟩:=hv';exact ⟨_,key _ _,Zi hv ((bk _ _).1 hk)⟩
 |_=>cases hx
theorem adY {i:TI} {cs:List AV} {x:AV} (h:gi i cs 0=some x):wide i<=cs.length:=by
 unfold gi at h;unfold wide;rw[aC] at h ⊢;split at h
 ·rename_i hg;rw[if_pos hg];obtain ⟨h1,_⟩:=ar h;have:=(bk _ _).1 h1;rwa[show Nat.add 0 i.size=i.size from Nat.zero_add _] at this
 ·rename_i hg;rw[if_neg hg];have:=(List.getElem?_eq_some_iff.1 h).1;omega
theorem pM {t:TypeId} {i:TI} {id off:Nat} {e:TypeId} {svs:List SV} {u:SV} (hi:E.ty.get t=some i) (hh:cL (hp id) off (wide i)=some (e,svs)) (hu:cO i svs off=some u):same (g8 E hp t (.ptr id off))=some (u,[]):=by
 unfold g8;show same (aj (E.ty.get t) fun i=>aj (cL (hp id) off (wide i)) fun p=>cO i p.2 off)=_
 rw[hi];show same (aj (cL (hp id) off (wide i)) fun p=>cO i p.2 off)=_
 rw[hh];show same (cO i svs off)=_;rw[hu];rfl
def F7 (i:TI) (bs:List (Nat×Bx)):AV->Option AV
 | .imm cs=>aj (gi i cs 0) fun x=>sel (bV x).isEmpty (some x) none
 | .loc K off=>
  (match lk K bs with
  |some (.flat _ cs)=>gi i cs off
  |_=>none)
 |_=>none
theorem VA.fH {v:SV} {x:AV} (q:VA F g v x) (hk:(bV x).isEmpty=true):VA F g' v x:=q.gb fun k hk'=>by rw[List.isEmpty_iff.1 hk] at hk';cases hk'
theorem VAs.fH {v:List SV} {x:List AV} (q:VAs F g v x) (hk:(cQ x).isEmpty=true):VAs F g' v x:=q.gb fun k hk'=>by rw[List.isEmpty_iff.1 hk] at hk';cases hk'
theorem Pj {t:TypeId} {i:TI} {x y:AV} {v:SV} (hi:E.ty.get t=some i) (hx:F7 i s.bs y=some x) (r:Rel B F g φ s tm h) (hv:VA F g v y):∃u,same (g8 E h.hp.get t v)=some (u,[])/\VA F g u x:=by
 cases y with
 |imm cs=>
  obtain ⟨x',hx,hx'⟩:=af (show aj (gi i cs 0) (fun x=>sel (bV x).isEmpty (some x) none)=some x from hx)
  obtain ⟨hk,hx'⟩:=ar hx';cases hx';cases hv with
  | @imm _ id off _ e svs hF hl hv=>
  obtain ⟨u,u1,u2⟩:=jL hv hx;exact ⟨u,pM hi (kC (iR r.sub hF) (Nat.le_refl _) (Nat.add_le_add_left (adY hx) _)) (zK u1 hl),u2.fH hk⟩
 |loc K off=>
  have hx:(match lk K s.bs with|some (.flat _ cs)=>gi i cs off|_=>none)=some x:=hx
  split at hx
  ·rename_i e cs hb;cases hv;have q:=r.bx K _ hb;generalize φ K=fp at q;cases q with
   | @flat _ _ svs hh qc=>
   obtain ⟨u,u1,u2⟩:=jL qc hx;exact ⟨u,pM hi (fy hh) u1,u2⟩
  ·cases hx
 |_=>cases hx
theorem aez {t:TypeId} {a:Operand} {i:TI} {x y:AV} (hi:E.ty.get t=some i) (ha:aL s.ts a=y) (hx:F7 i s.bs y=some x):aP E B (.load t a) s s x none:=aP.un (f:=fun hp v=>same (g8 E hp t v)) (fun _ _ _=>rfl) ha (fun e=>by subst e;cases hx) fun {F g φ tm h v} r hv=>Pj hi hx r hv
theorem UC {x:Option SV} {u:SV} (h:same x=some (u,[])):x=some u:=by
 cases x with
 |none=>cases h
 |some v=>cases h;rfl
end
section
variable {F F':Hf} {g g':Gb} {B:Bs} {φ:Nat->List Nat} {s s' s1:LS} {tm:Tf} {h:Hs} {hp:Hf} {E:Env} {nt:Nat} {all l:List Oper}
theorem aey {a:Operand} {x:AV} (ha:aL s.ts a=x) (hx:x≠ .undef):aP E B (.move a) s s x none:=aP.un (f:=fun _ v=>some (v,[])) (fun _ _ _=>rfl) ha hx fun r hv=>⟨_,rfl,hv⟩
theorem Ws {a:Operand} {x:AV} (ha:aL s.ts a=x) (hx:x≠ .undef):aP E B (.assign a) s s x none:=aP.un (f:=fun _ v=>some (v,[])) (fun _ _ _=>rfl) ha hx fun r hv=>⟨_,rfl,hv⟩
theorem aew {c a b:Operand} {t:Bool} {x:AV} (hc:aL s.ts c= .bool t) (ha:aL s.ts (sel t a b)=x) (hx:x≠ .undef):aP E B (.pick c a b) s s x none:=aP.pure fun {F g φ tm h new} r=>by
 obtain ⟨v,v1,v2⟩:=r.val hc (by simp)
 obtain ⟨w,w1,w2⟩:=r.val ha hx;cases v2;refine ⟨w,?_,w2⟩;show aj (aM tm c) (fun v=>aj (g6 v) fun b'=>one tm (sel b' a b) fun v=>some (v,[]))=_
 rw[v1];show one tm (sel t a b) (fun v=>some (v,[]))=_
 unfold one;rw[w1];rfl
def adk:AV->Bool
 | .loc _ _| .el _ _ _ _| .imm _| .fn _ _ _=>true
 |_=>false
theorem NY {a:Operand} {x:AV} (ha:aL s.ts a=x) (hx:adk x=true):aP E B (.nilCheck a) s s x none:=aP.un (f:=fun _ v=>same (Bj v)) (fun _ _ _=>rfl) ha (fun e=>by subst e;cases hx) fun {F g φ tm h v} r hv=>by
 refine ⟨v,?_,hv⟩;cases x<;>first|(cases hx;done)|(cases hv<;>rfl)
theorem YH {t:TypeId} {a:Operand} {f:Nat} {p:Nat×TI} {cs:List AV} {x:AV} (hp:tf E t f=some p) (ha:aL s.ts a= .agg cs) (hx:gi p.2 cs p.1=some x):aP E B (.field t a f) s s x none:=by
 obtain ⟨i,fs,fl,e1,e2,e3,e4,e5⟩:=wD hp;refine aP.un (f:=fun _=>mT E t f) (fun _ _ _=>rfl) ha (by simp) fun {F g φ tm h v} r hv=> ?_
 cases hv with
 | @agg _ vs _ q=>
 obtain ⟨u,u1,u2⟩:=jL q hx;refine ⟨u,?_,u2⟩;show mT E t f (.agg vs)=_;unfold mT;rw[e1];show aj (mP i.desc) _=_;rw[e2];show aj (fs[f]?) _=_;rw[e3];show aj (E.ty.get fl.type) _=_;rw[e4];show same (cO p.2 vs fl.off)=_;rw[e5,u1];rfl
theorem QK {a:Operand} {i:Nat} {xs:List AV} {x:AV} (ha:aL s.ts a= .tup xs) (hx:xs[i]? =some x):aP E B (.extract a i) s s x none:=aP.un (f:=fun _ v=>aj (AA v) fun vs=>same (vs[i]?)) (fun _ _ _=>rfl) ha (by simp) fun {F g φ tm h v} r hv=>by
 cases hv with
 | @tup _ vs _ q=>
 obtain ⟨u,u1,u2⟩:=q.get hx;refine ⟨u,?_,u2⟩;show same (vs[i]?)=_;rw[u1];rfl
def binL:BinOp->IntKind->Int->Int->Option AV
 | .add,k,m,n=>some (.int k (k.wrap (m+n)))
 | .sub,k,m,n=>some (.int k (k.wrap (m-n)))
 | .eql,_,m,n=>some (.bool (decide (m=n)))
 | .neq,_,m,n=>some (.bool (!decide (m=n)))
 | .lss,_,m,n=>some (.bool (decide (m<n)))
 | .leq,_,m,n=>some (.bool (!decide (n<m)))
 | .gtr,_,m,n=>some (.bool (decide (n<m)))
 | .geq,_,m,n=>some (.bool (!decide (m<n)))
 | .shr,k,m,n=>sel (decide (n=1)) (some (.int k (m.fdiv 2))) none
 |_,_,_,_=>none
theorem aeX {op:BinOp} {t:TypeId} {k:IntKind} {m n:Int} {x:AV} (hx:binL op k m n=some x):∃v,Mb E op t k (.lit m) (.int k (.lit n))=some v/\VA F g v x:=by
 have red:Mb E op t k (.lit m) (.int k (.lit n))=Gd op E op t k k (.lit m) (.lit n):=rfl;rw[red];have kk:=QZ k;cases op<;>first|(cases hx;done)|skip
 ·cases hx;refine ⟨.int k (.lit (k.wrap (m+n))),?_,.int _ _⟩;show sel (ct k k) (some (SV.int k (Mm k (.lit m) (.lit n)))) none=_;rw[kk];rfl
 ·cases hx;refine ⟨.int k (.lit (k.wrap (m-n))),?_,.int _ _⟩;show sel (ct k k) (some (SV.int k (zD k (.lit m) (.lit n)))) none=_;rw[kk];rfl
 ·obtain ⟨hn,hx⟩:=ar hx;have hn:n=1:=by simpa using hn
  subst hn;cases hx;refine ⟨.int k (.lit (m.fdiv 2)),?_,.int _ _⟩;cases k<;>rfl
 ·cases hx;refine ⟨.bool (decide (m=n)),?_,.bool _⟩;show sel (ct k k) (eK false (some (uc m n))) none=_;rw[kk,mY];rfl
 ·cases hx;refine ⟨.bool (!decide (m=n)),?_,.bool _⟩;show sel (ct k k) (eK true (some (uc m n))) none=_;rw[kk,mY];rfl
 ·cases hx;refine ⟨.bool (decide (m<n)),?_,.bool _⟩;show sel (ct k k) (eK false (some (ml m n))) none=_;rw[kk,lM];rfl
 ·cases hx;refine ⟨.bool (!decide (n<m)),?_,.bool _⟩;show sel (ct k k) (eK true (some (ml n m))) none=_;rw[kk,lM];rfl
 ·cases hx;refine ⟨.bool (decide (n<m)),?_,.bool _⟩;show sel (ct k k) (eK false (some (ml n m))) none=_;rw[kk,lM];rfl
 ·cases hx;refine ⟨.bool (!decide (m<n)),?_,.bool _⟩;show sel (ct k k) (eK true (some (ml m n))) none=_;rw[kk,lM];rfl
def binS:BinOp->ByteArray->ByteArray->Option AV
 | .eql,a,b=>some (.bool (decide (a=b)))
 | .neq,a,b=>some (.bool (!decide (a=b)))
 | .lss,a,b=>some (.bool (Op.bytesLess a.toList b.toList))
 | .leq,a,b=>some (.bool (Op.bytesLess a.toList b.toList||a.toList==b.toList))
 | .gtr,a,b=>some (.bool (!(Op.bytesLess a.toList b.toList||a.toList==b.toList)))
 | .geq,a,b=>some (.bool (!Op.bytesLess a.toList b.toList))
 |_,_,_=>none
theorem aeW {op:BinOp} {t:TypeId} {a b:ByteArray} {x:AV} (hx:binS op a b=some x):∃v,Xp E op t a (.str b)=some v/\VA F g v x:=by
 cases op<;>first|(cases hx;done)|skip
 ·cases hx;refine ⟨.bool (pT a b),rfl,?_⟩;rw[lX];exact .bool _
 ·cases hx;refine ⟨.bool (!pT a b),rfl,?_⟩;rw[lX];exact .bool _
 all_goals (cases hx;exact ⟨_,rfl,.bool _⟩)
def eqPL:AV->AV->Option Bool
 | .cU,.cU=>some true
 | .cU,.loc _ _| .cU,.el _ _ _ _| .cU,.imm _=>some false
 | .loc _ _,.cU| .el _ _ _ _,.cU| .imm _,.cU=>some false
 |_,_=>none
def eqSL:AV->AV->Option Bool
 | .aU,.aU=>some true
 | .aU,.sln _ _ rows=>some rows.isEmpty
 | .sln _ _ rows,.aU=>some rows.isEmpty
 |_,_=>none
def eqFL:AV->AV->Option Bool
 | .dt,.dt=>some true
 | .dt,.fn _ _ _=>some false
 | .fn _ _ _,.dt=>some false
 |_,_=>none
def eqML:AV->AV->Option Bool
 | .cV,.cV=>some true
 | .cV,.mp _=>some false
 | .mp _,.cV=>some false
 |_,_=>none
def eqIL (E:Env) (eq:TypeId->AV->AV->Option Bool):AV->AV->Option Bool
 | .cW,.cW=>some true
 | .cW,.ifc _ _=>some false
 | .ifc _ _,.cW=>some false
 | .ifc t1 v1,.ifc t2 v2=>sel (Nat.beq t1 t2) (aj (E.ty.get t1) fun i1=>sel i1.comparable (eq t1 v1 v2) none) (some false)
 |_,_=>none
def RX (E:Env) (eq:TypeId->AV->AV->Option Bool) (xs ys:List AV):List FL->Option Bool
 | []=>some true
 |f::fs=>sel f.named (aj (E.ty.get f.type) fun i=>aG (gi i xs f.off) (gi i ys f.off) fun x y=>aG (eq f.type x y) (RX E eq xs ys fs) fun a b=>some (a&&b)) none
def ZP (E:Env) (eq:TypeId->AV->AV->Option Bool) (t:TypeId):UD->AV->AV->Option Bool
 | .bool,.bool a,.bool b=>some (a==b)
 | .int _,.int k a,.int k' b=>sel (ct k k') (some (decide (a=b))) none
 | .string,.str a,.str b=>some (decide (a=b))
 | .pointer,x,y=>eqPL x y
 | .slice _,x,y=>eqSL x y
 | .map _ _,x,y=>eqML x y
 | .struct fs,.agg xs,.agg ys=>sel (E.P.stoodInHeld t) none (RX E eq xs ys fs)
 | .func,x,y=>eqFL x y
 | .interface,x,y=>eqIL E eq x y
 |_,_,_=>none
def Ek (E:Env) (n:Nat):TypeId->AV->AV->Option Bool:=
 @Nat.rec (fun _=>TypeId->AV->AV->Option Bool) (fun _ _ _=>none) (fun _ eq t x y=>aj (E.ty.get t) fun i=>ZP E eq t i.desc x y) n
theorem LL {eq:TypeId->SV->SV->Option Bool} {eqL:TypeId->AV->AV->Option Bool} (ih:∀t v w x y b,VA F g v x->VA F g w y->eqL t x y=some b->eq t v w=some b) {vs ws:List SV} {xs ys:List AV} (h1:VAs F g vs xs) (h2:VAs F g ws ys):∀{fs:List FL} {b:Bool},RX E eqL xs ys fs=some b->uG E eq vs ws fs=some b
 | [],_,hb=>hb
 |f::fs,b,hb=>by
  obtain ⟨hn,hb⟩:=ar hb;obtain ⟨i,hi,hb⟩:=af hb;obtain ⟨x,y,hx,hy,hb⟩:=az hb;obtain ⟨c,d,hc,hd,hb⟩:=az hb;obtain ⟨v,v1,v2⟩:=jL h1 hx;obtain ⟨w,w1,w2⟩:=jL h2 hy;have e1:=ih _ _ _ _ _ _ v2 w2 hc;have e2:=LL ih h1 h2 hd;show sel f.named (aj (E.ty.get f.type) fun i=>aG (cO i vs f.off) (cO i ws f.off) fun x y=>andThen (eq f.type x y) (uG E eq vs ws fs)) none=_
  rw[hn,hi];show aG (cO i vs f.off) (cO i ws f.off) (fun x y=>andThen (eq f.type x y) (uG E eq vs ws fs))=_
  rw[v1,w1];show andThen (eq f.type v w) (uG E eq vs ws fs)=_;rw[e1,e2];cases hb;cases c<;>rfl
theorem JO {v:SV} {e:TypeId} {sz:Nat} {rows:List (List AV)} (q:VA F g v (.sln e sz rows)):El .aU v=some rows.isEmpty/\El v .aU=some rows.isEmpty:=by
 cases q with
 |mR=>exact ⟨rfl,rfl⟩
 |sln hF hc hn hz=>cases rows with
  |nil=>exact absurd rfl hz
  |cons=>exact ⟨rfl,rfl⟩
theorem Po:∀(n:Nat) {t:TypeId} {v w:SV} {x y:AV} {b:Bool},VA F g v x->VA F g w y->Ek E n t x y=some b->eqT E n t v w=some b
 |0,_,_,_,_,_,_,_,_,hb=>by cases hb
 |n+1,t,v,w,x,y,b,hv,hw,hb=>by
  obtain ⟨i,hi,hb⟩:=af (show aj (E.ty.get t) (fun i=>ZP E (Ek E n) t i.desc x y)=some b from hb)
  show aj (E.ty.get t) (fun i=>eqD i.desc E (eqT E n) t v w)=_
  rw[hi];show eqD i.desc E (eqT E n) t v w=some b;have ih:∀t v w x y b,VA F g v x->VA F g w y->Ek E n t x y=some b->eqT E n t v w=some b:=fun _ _ _ _ _ _ a b c=>Po n a b c
  generalize i.desc=d at hb;unfold ZP at hb;split at hb
  ·cases hv;cases hw;exact hb
  ·cases hv;cases hw;obtain ⟨hk,hb⟩:=ar hb;show sel (ct _ _) (some (uc _ _)) none=_;rw[hk,mY];exact hb
  ·cases hv;cases hw;show some (pT _ _)=_;rw[lX];exact hb
  ·show Gn v w=_;unfold eqPL at hb;split at hb<;>first|(cases hb;done)|(cases hv<;>cases hw<;>exact hb)
  ·show El v w=_;unfold eqSL at hb;split at hb
   ·cases hv;cases hw;exact hb
   ·cases hv;rw[(JO hw).1];exact hb
   ·cases hw;rw[(JO hv).2];exact hb
   ·cases hb
  ·show Gp v w=_;unfold eqML at hb;split at hb<;>first|(cases hb;done)|(cases hv<;>cases hw<;>exact hb)
  ·cases hv with|agg h1=>cases hw with|agg h2=>
   show sel (E.P.stoodInHeld t) none (uG E (eqT E n) _ _ _)=_;rw[aC] at hb ⊢;split at hb
   ·cases hb
   ·rename_i hs;rw[if_neg hs];exact LL ih h1 h2 hb
  ·show RY v w=_;unfold eqFL at hb;split at hb<;>first|(cases hb;done)|(cases hv<;>cases hw<;>exact hb)
  ·show Gq E (eqT E n) v w=_;unfold eqIL at hb;split at hb
   ·cases hv;cases hw;exact hb
   ·cases hv;cases hw;exact hb
   ·cases hv;cases hw;exact hb
   ·cases hv with|ifc _ h1=>cases hw with|ifc _ h2=>
    show sel (Nat.beq _ _) (aj (E.ty.get _) fun i1=>sel i1.comparable (eqT E n _ _ _) none) (some false)=_
    rw[aC] at hb ⊢;split at hb
    ·rename_i e;rw[if_pos e];obtain ⟨i1,hi1,hb⟩:=af hb;obtain ⟨hc,hb⟩:=ar hb;rw[hi1];show sel i1.comparable (eqT E n _ _ _) none=_;rw[hc];exact ih _ _ _ _ _ _ h1 h2 hb
    ·rename_i e;rw[if_neg e];exact hb
   ·cases hb
  ·cases hb
def RW (E:Env) (t:TypeId) (ox oy:Operand) (x:AV):Bool:=
 match x with
 | .cW=>isConst ox||isConst oy
 | .agg _=> !E.P.eqGuardType E.P.depth t
 | .undef=>false
 |_=>true
def gC (E:Env) (op:BinOp) (t:TypeId) (ox oy:Operand) (x y:AV):Option AV:=
 match op with
 | .eql=>sel (RW E t ox oy x) (aj (Ek E 20 t x y) fun b=>some (.bool b)) none
 | .neq=>sel (RW E t ox oy x) (aj (Ek E 20 t x y) fun b=>some (.bool (!b))) none
 |_=>none
def Sj (E:Env) (op:BinOp) (t:TypeId) (ox oy:Operand):AV->AV->Option AV
 | .int k m,.int k' n=>sel (ct k k') (binL op k m n) none
 | .str a,.str b=>binS op a b
 | .bool a,y=>gC E op t ox oy (.bool a) y
 | .agg xs,y=>gC E op t ox oy (.agg xs) y
 | .aU,y=>gC E op t ox oy .aU y
 | .sln a b c,y=>gC E op t ox oy (.sln a b c) y
 | .cU,y=>gC E op t ox oy .cU y
 | .loc a b,y=>gC E op t ox oy (.loc a b) y
 | .el a b c d,y=>gC E op t ox oy (.el a b c d) y
 | .imm a,y=>gC E op t ox oy (.imm a) y
 | .dt,y=>gC E op t ox oy .dt y
 | .fn a b c,y=>gC E op t ox oy (.fn a b c) y
 | .cV,y=>gC E op t ox oy .cV y
 | .mp a,y=>gC E op t ox oy (.mp a) y
 | .cW,y=>gC E op t ox oy .cW y
 | .ifc a b,y=>gC E op t ox oy (.ifc a b) y
 |_,_=>none
theorem Yw {op:BinOp} {t:TypeId} {ox oy:Operand} {v w:SV} {x y z:AV} (hv:VA F g v x) (hw:VA F g w y) (hz:gC E op t ox oy x y=some z) (hb:∀v',VA F g v' x->Z9 v'=fun E op t ox oy x y=>eD op E t ox oy x y):∃u,sq E op t ox oy v w=some u/\VA F g u z:=by
 have key:∀{b:Bool},RW E t ox oy x=true->Ek E 20 t x y=some b->uF E t ox oy v w=some b:=fun {b} h1 h2=>by
  have e2:=Po 20 hv hw h2;unfold uF;have e1:ZO E t ox oy v=true:=by
   cases x<;>first|(cases h1;done)|skip
   all_goals (cases hv<;>first|exact h1|rfl)
  rw[e1];exact e2
 show ∃u,Z9 v E op t ox oy v w=some u/\VA F g u z;rw[hb v hv];unfold gC at hz;split at hz
 ·obtain ⟨h1,hz⟩:=ar hz;obtain ⟨b,h2,hz⟩:=af hz;cases hz;refine ⟨.bool b,?_,.bool _⟩;show eK false (uF E t ox oy v w)=_;rw[key h1 h2];rfl
 ·obtain ⟨h1,hz⟩:=ar hz;obtain ⟨b,h2,hz⟩:=af hz;cases hz;refine ⟨.bool (!b),?_,.bool _⟩;show eK true (uF E t ox oy v w)=_;rw[key h1 h2];rfl
 ·cases hz
theorem agb {op:BinOp} {t t2:TypeId} {a b:Operand} {x y z:AV} (ha:aL s.ts a=x) (hb:aL s.ts b=y) (hy:y≠ .undef) (hz:Sj E op t a b x y=some z):aP E B (.binOp op t a b t2) s s z none:=by
 refine aP.bi (f:=fun _ v u=>same (sq E op t a b v u)) (fun _ _ _=>rfl) ha (fun e=>by subst e;cases hz) hb hy fun {F g φ tm h v w} r hv hw=> ?_
 have key:∃u,sq E op t a b v w=some u/\VA F g u z:=by
  unfold Sj at hz;split at hz<;>first|(cases hz;done)|skip
  ·rename_i k m k' n;obtain ⟨hk,hz2⟩:=ar hz;have ek:k=k':=by cases k<;>cases k'<;>first|rfl|(cases hk;done)
   subst ek;cases hv;cases hw;exact aeX hz2
  ·cases hv;cases hw;exact aeW hz
  all_goals exact Yw hv hw hz fun v' hv'=>by cases hv'<;>rfl
 obtain ⟨u,u1,u2⟩:=key;refine ⟨u,?_,u2⟩;show same (sq E op t a b v w)=_;rw[u1];rfl
end
end Go.Sim
end
