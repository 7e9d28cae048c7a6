/- Part. -/
import Derived.Test.YtbnkhmoelnfjoaaGreatP3
import Derived.KernelRfl
import Derived.Test.YtbnkhmoelnfjoaaGreatP2
import Derived.Below
import Derived.Carry
import Derived.OpenShut
import Derived.JoinedCond
import Derived.Test.YtbnkhmoelnfjoaaGreatRows
import Derived.WalkKit
import Derived.ProofKit
import Derived.Deep.DeepHandedRow
import Derived.Test.YtbnkhmoelnfjoaaGreatProg
import Derived.Shelf.Sort.Plain
import Derived.Shelf.Slices.CompactI
import Derived.Shelf.Slices.In.SortNone
import Derived.Ground.NamesProg
import Derived.Ground.Names2Prog
import Derived.Deep.LoopGhost
import Derived.Deep.RegionLaw
import Derived.Lib.SliceRun
import Derived.Lib.Overlaps
import Derived.Lib.AppendZeros
import Derived.Lib.AppendZerosOnto
import Derived.Laws.Externs
import Derived.Laws.NewBlocks
import Derived.Deep.AppendSrc
set_option linter.all false
set_option maxRecDepth 1000000
noncomputable section
namespace Go.bX
variable {ob o:List cD} {r xs vs:bc} {Q:bA} {e:TypeId} {a hi lo:Int} {b ro z d:Bool} {x:ResultVar} {f k j n i u K A:Nat} {bs:cL} {v:SV} {G:Prop} {sk:br} {l:dX} {aa svs:aY} {o':SO} {L':Ow} {fn:Func}
section
variable {s s' s1:LS} {E:Env} {pn:Nat->Bool} {nt:Nat} {ops:dF}
structure Mt where
 i:Nat
 o:Oper
 W:br
 Rd:Option br
 cl:Bool
def ancL (d:br) (l:List Mt):br:=List.rec (λd=>d) (λm _ ih d=>ih (aQ (lQ m.i d) (mc m.o++d) d)) l d
def alT (all:dd) (o:Oper) (A W:br) (Rd:Option br):br->List Mt->Bool
 |_,[]=>true
 |cw,m::l=>(lQ m.i A||(!m.cl&&((match m.Rd,Rd with|some r',some r=>o5 (r'++m.W) (W++cw)&&o5 r m.W|_,_=>false)&&wj all m.o o)))&&alT all o A W Rd (aQ m.cl (m.W++cw) cw) l
def ajL:br->List Mt->Bool
 | [],_=>true
 |k::l,p=>lQ k (p.map (·.i))&&ajL l p
def Vz (E:Env) (nt:Nat) (pn:Nat->Bool) (all:dd):br->LS->Sc E->List cD->List Mt->Option (LS×List cD×Sc E)
 | [],s,sc,ob,_=>some (s,ob,sc)
 |i::l,s,sc,ob,p=>az (all[i]?) λo=>az (ajQ E nt pn all s o sc) λr=>(λA:br=>
  aQ (Nat.ble (Nat.succ p.length) all.length&&(ajL (mc o) p&&(!lQ i (p.map (·.i))&&alT all o A r.1.r.W r.1.Rd [] p))) (Vz E nt pn all l r.1.r.s r.2 (r.1.r.Ep++ob) (⟨i,o,r.1.r.W,r.1.Rd,r.1.cl⟩::p)) none) (ancL (mc o) p)
structure Fits (ops:dF) (e:Ev) (m:Mt):Prop where
 i:e.i=m.i
 o:ops[e.i]? =some m.o
 W:e.W=m.W
 Rd:e.Rd=m.Rd
 cl:e.cl=m.cl
inductive De (ops:dF):List Ev->List Mt->Prop
 |nil:De ops [] []
 |cons {p m e l:_} (h:De ops p l) (k:Fits ops e m):De ops (p++ [e]) (m::l)
def De.map:∀{p:List Ev} {l:List Mt},De ops p l->∀k,k∈p.map (·.i)↔k∈l.map (·.i)
 |_,_,.nil,k=>Iff.rfl
 |_,_,.cons h f,k=>by simp only[mB,eR,h.map k,jc,cH,uE,List.not_mem_nil,or_false,f.i];exact Or.comm
def Qz:∀{m n j:Nat},m<=n->∀i∈mq ops m j,i∈mq ops n j
 |0,_,_,_,i,h=>by cases h
 |m+1,0,_,h,_,_=>by omega
 |m+1,n+1,j,h,i,hi=>by
  rcases eR.1 (show i∈direct ops j++(direct ops j).flatMap (mq ops m) from hi) with h1|h1
  ·exact gE _ h1
  ·obtain ⟨k,k1,k2⟩:=tT.1 h1;exact iz _ (tT.2 ⟨k,k1,Qz (Nat.le_of_succ_le_succ h) i k2⟩)
def acP:∀{n j i k:Nat},i∈mq ops n j->k∈direct ops i->k∈mq ops (n+1) j
 |0,_,_,_,h,_=>by cases h
 |n+1,j,i,k,h,hk=>by
  rcases eR.1 (show i∈direct ops j++(direct ops j).flatMap (mq ops n) from h) with h1|h1
  ·exact iz _ (tT.2 ⟨i,h1,gE _ hk⟩)
  ·obtain ⟨q,q1,q2⟩:=tT.1 h1;exact iz _ (tT.2 ⟨q,q1,acP q2 hk⟩)
def aiK {j:Nat}:∀{p:List Ev} {l:List Mt} {q:Nat} {d:br},(∀i∈d,i∈mq ops q j)->De ops p l->∀i∈ancL d l,i∈mq ops (q+l.length) j
 |_,_,_,_,hd,.nil,i,hi=>hd i hi
 |_,_,q,d,hd,.cons (m:=m) (l:=l) h k,i,hi=>by
  have:=aiK (q:=q+1) (d:=aQ (lQ m.i d) (mc m.o++d) d) (λi hi=>by
   rw[bH] at hi;split at hi
   ·rename_i hm;rcases eR.1 hi with hi|hi
    ·exact acP (hd _ ((qf _ _).1 hm)) (by unfold direct;rw[<-k.i,k.o];exact hi)
    ·exact Qz (xB _) i (hd i hi)
   ·exact Qz (xB _) i (hd i hi)) h i hi
  rwa[show q+1+l.length=q+(m::l).length by rw[kr];omega] at this
def agB {l:List Mt}:∀{d:br},ajL d l=true->∀k∈d,k∈l.map (·.i)
 |k::d,h,j,hj=>by
  have h:=kL.1 (show (lQ k (l.map (·.i))&&ajL d l)=true from h)
  rcases cH.1 hj with rfl|hj
  ·exact (qf _ _).1 h.1
  ·exact agB h.2 j hj
def aiC {o:Oper} {A:br} {e:Ev} (ho:ops[e.i]? =some o):∀{p:List Ev} {l:List Mt} {cw:br},De ops p l->alT ops.toList o A e.W e.Rd cw l=true->∀pa e' pm,p=pa++e'::pm->e'.i∈A\/(Good ops e' pm e/\∃r',e'.Rd=some r'/\∀K∈r'++e'.W,K∉cw)
 |_,_,cw,.nil,_,pa,e',pm,h0=>by
  have:=bN List.length h0;simp at this
 |_,_,cw,.cons (p:=p) (m:=m) (e:=e0) (l:=l) hf k,h,pa,e',pm,h0=>by
  have h:=kL.1 (show ((lQ m.i A||(!m.cl&&((match m.Rd,e.Rd with|some r',some r=>o5 (r'++m.W) (e.W++cw)&&o5 r m.W|_,_=>false)&&wj ops.toList m.o o)))&&alT ops.toList o A e.W e.Rd (aQ m.cl (m.W++cw) cw) l)=true from h)
  rcases List.eq_nil_or_concat pm with rfl|⟨pm0,e1,rfl⟩
  ·obtain ⟨rfl,h2⟩:=List.append_inj' h0 rfl;obtain rfl:=List.singleton_inj.1 h2;rcases (pE _ _).mp h.1 with h1|h1
   ·left;rw[k.i];exact (qf _ _).1 h1
   ·right;simp only[bF] at h1;obtain ⟨h1,h2,h3⟩:=h1;rw[<-k.Rd] at h2;split at h2
    ·rename_i r' r e1 e2;rw[bF,<-k.W] at h2;have d1:=BP h2.1;have d2:=BP h2.2;refine ⟨⟨by rw[k.cl];simpa using h1,⟨r',r,e1,e2,λK hK=>⟨λhm=>d1 K hK (gE _ hm),λm hm=>(by cases hm)⟩,d2⟩,⟨m.o,o,k.o,ho,h3⟩⟩,r',e1,λK hK hm=>d1 K hK (iz _ hm)⟩
    ·cases h2
  ·rw[List.concat_eq_append,show pa++e'::(pm0++ [e1])=(pa++e'::pm0)++ [e1] by simp] at h0
   obtain ⟨h1,h2⟩:=List.append_inj' h0 rfl;obtain rfl:=List.singleton_inj.1 h2;rcases aiC ho hf h.2 pa e' pm0 h1 with h3|⟨⟨g1,⟨r',r,e1,e2,g2,g3⟩,g4⟩,r'',e3,g5⟩
   ·exact .inl h3
   ·right;rw[e1] at e3;cases e3;rw[bH] at g5;refine ⟨⟨g1,⟨r',r,e1,e2,λK hK=>⟨(g2 K hK).1,λm' sU eI=> ?_⟩,g3⟩,g4⟩,r',e1,λK hK hm=>g5 K hK ?_⟩
    ·rw[List.concat_eq_append] at sU;rcases eR.1 sU with sU|sU
     ·exact (g2 K hK).2 m' sU eI
     ·rw[ez] at sU;subst sU;intro hKW;refine g5 K hK ?_;rw[aH (by rw[<-k.cl];exact eI)]
      exact gE _ (k.W ▸ hKW)
    ·split
     ·exact iz _ hm
     ·exact hm
def GX {base:Nat}:∀{l:br} {s:LS} {sc:Sc E} {ob:List cD} {pm:List Mt} {r:LS×List cD×Sc E},Vz E nt pn ops.toList l s sc ob pm=some r->iF r.2.1->iF ob/\∀(p:List Ev) (w:WS),De ops p pm->(p.map (·.i)).Nodup->In s w->base+ops.size<=w.m.nx->(∀i,i<ops.size->i∉p.map (·.i)->w.m.H (base+i)=none)->
  ∃iO w',ew E nt pn ops w iO w'/\In r.1 w'/\iO.map (·.i)=l/\(∀e∈iO,e.nw=base+e.i)/\PW ops p iO/\((p++iO).map (·.i)).Nodup/\(pn sP=true->∀x,w.m.H x≠none->w'.m.H x=w.m.H x/\w'.c x=w.c x)
 | [],s,sc,ob,pm,r,h,ho=>by
  cases h;exact ⟨ho,λp w _ nd hw _ _=>⟨[],w,.nil hw.wok,hw,rfl,λe he=>(by cases he),trivial,by simpa using nd,λ_ _ _=>⟨rfl,rfl⟩⟩⟩
 |i::l,s,sc,ob,pm,r,h,ho=>by
  obtain ⟨o,hi,h⟩:=aq h;obtain ⟨q,hq,h⟩:=aq h;obtain ⟨hc,h⟩:=aV h;simp only[bF] at hc;obtain ⟨k1,k2,k3,k4⟩:=hc;rw[lx] at hi;obtain ⟨h1,h2⟩:=GX h ho;obtain ⟨h3,h4⟩:=nQ h1;refine ⟨h4,λp w hf nd hw eV hun=> ?_⟩
  have cY:i<ops.size:=(nh.1 hi).1;have hip:i∉p.map (·.i):=λhm=>Gt k3 ((hf.map i).1 hm)
  obtain ⟨r1,w1,st,in1,n1,q9⟩:=Y7 (new:=base+i) (nx':=w.m.nx) hi hq h3 hw (hun i cY hip) (dg _) (by omega) λ_=>.inr rfl
  have dird:∀k∈mc o,k∈direct ops i:=λk hk=>by unfold direct;rw[hi];exact hk
  have fit:Fits ops ⟨i,base+i,r1,q.1.r.W,q.1.Rd,q.1.cl⟩ ⟨i,o,q.1.r.W,q.1.Rd,q.1.cl⟩:=⟨rfl,hi,rfl,rfl,rfl⟩;have nd':((p++ [(⟨i,base+i,r1,q.1.r.W,q.1.Rd,q.1.cl⟩:Ev)]).map (·.i)).Nodup:=by
   rw[mB];exact DO.2 ⟨nd,by simp,λa ha b hb e=>hip (by rw[show b=i by simpa using hb] at e;exact e ▸ ha)⟩
  obtain ⟨iO,w',c1,c2,c3,c4,c5,c6,c9⟩:=h2 _ w1 (.cons hf fit) nd' in1 (jj eV st.nx) λj hj hjp=>nA λcZ=>by
   rw[mB,eR,not_or] at hjp;rcases st.born (base+j) (hun j hj hjp.1) cZ with e|e
   ·exact hjp.2 (by have e:base+j=base+i:=e;simp;omega)
   ·have e:w.m.nx<=base+j:=e;omega
  refine ⟨⟨i,base+i,r1,q.1.r.W,q.1.Rd,q.1.cl⟩::iO,w',.cons hw.wok st c1,c2,by rw[jc,c3],λe he=> ?_,⟨⟨λk hk=> ?_,λpa e' pm' hp=> ?_⟩,c5⟩,by simpa using c6,λhp x hx=>have ⟨a1,a2⟩:=q9 hp x hx;have ⟨b1,b2⟩:=c9 hp x (a1 ▸ hx);⟨b1.trans a1,b2.trans a2⟩⟩
  ·rcases cH.1 he with rfl|he
   ·rfl
   ·exact c4 e he
  ·refine (hf.map k).2 (agB k2 k ?_);have hk:k∈((ops[i]?).map mc).getD []:=hk;rw[hi] at hk;exact hk
  ·rcases aiC (e:=⟨i,base+i,r1,q.1.r.W,q.1.Rd,q.1.cl⟩) hi hf k4 pa e' pm' hp with h|⟨h,_⟩
   ·refine .inl (Qz ?_ _ (aiK (q:=1) (λk hk=>gE _ (dird k hk)) hf _ h))
    have:=(bV _ _).1 k1;have e:ops.toList.length=ops.size:=KD;omega
   ·exact .inr h
def ordS (n:Nat) (sc:Sc E):br×Sc E:=
 match sc with
 |(0,.ord l)::sc=>(l,sc)
 |_=>(List.range n,sc)
def ayP (E:Env) (nt:Nat) (pn:Nat->Bool) (all:dd) (n:Nat) (s:LS) (sc:Sc E) (ob:List cD):Option (LS×List cD×Sc E):=
 (λq:LS×List cD×Sc E=>(λσ:br×Sc E=>aQ ((List.range n).all λj=>lQ j σ.1) (Vz E nt pn all σ.1 q.1 σ.2 q.2.1 []) none) (ordS n q.2.2)) (BH pn sc s ob)
def avw {id:Nat} {sc:Sc E} {r:LS×List cD×Sc E} (h:ayP E nt pn ops.toList ops.size s sc ob=some r) (ho:iF r.2.1):iF ob/\∀w,In s w->∃w',jN E nt (.region id ops true) w.m .normal w'.m/\In r.1 w'/\Ext pn w w':=by
 obtain ⟨h1,h⟩:=aV h;obtain ⟨h2,h3⟩:=GX (base:=0) h ho;obtain ⟨h4,h5,h9⟩:=Jy sc s ob h2;refine ⟨h4,λw hw=> ?_⟩
 obtain ⟨w1,k1,k2,k3⟩:=hw.UX h5 h9;let w2:WS:=⟨w1.F,w1.g,w1.Y,w1.c,⟨w1.m.T,w1.m.H,w1.m.nx+ops.size⟩⟩;have in2:In (BH pn sc s ob).1 w2:=⟨k1.r,λx hx=>k1.bd x (by have hx:w1.m.nx+ops.size<=x:=hx;omega)⟩
 obtain ⟨_,h3⟩:=GX (base:=w1.m.nx) h ho;obtain ⟨iO,w',c1,c2,c3,c4,c5,c6,c9⟩:=h3 [] w2 .nil (by simp) in2 (dg _) λi _ _=>k1.bd _ (by omega)
 have c6:(iO.map (·.i)).Nodup:=by simpa using c6
 have cY:∀j∈iO.map (·.i),j<ops.size:=λj hj=>by
  obtain ⟨e,he,rfl⟩:=cO.1 hj;obtain ⟨a,b,he'⟩:=tU he;rw[he'] at c1;obtain ⟨_,_,_,st,_⟩:=c1.split;obtain ⟨o,ho,_⟩:=st.st;exact (nh.1 ho).1
 have hF:=c1.F;have eV:w1.m.nx<=w'.m.nx:=jj (xy _ _) hF.2.2;refine ⟨w',?_,c2,k2.trans ⟨hF.1,hF.2.1,eV,λx hx cZ h0=> ?_,c9⟩⟩
 ·rw[<-k3];exact alU (w:=w2) rfl rfl rfl k1.bd c1 c6 (λj=>⟨cY j,λhj=>by rw[c3];exact (qf _ _).1 ((iJ.1 h1) j (S1.2 hj))⟩) c4 c5
 ·refine cZ (c1.Im h0 (show x<w1.m.nx+ops.size by omega) λe he e0=> ?_)
  rw[c4 e he] at e0;omega
end
section
variable {s s' s1:LS} {E:Env} {nt:Nat}
variable {p:br} {c:Code} {g:Gb} {Y:Nat->Ow} {T:Tf} {H:Hf} {y:AV} {gd:cL}
def Cw:Code->Nat->Code
 | .seq a _,0=>a
 | .seq _ b,_=>b
 | .cond _ a _,0=>a
 | .cond _ _ b,_=>b
 | .block _ c,_=>c
 | .loop c,_=>c
 |_,_=>.skip
def vo (c:Code):br->Code
 | []=>c
 |i::p=>Cw (vo c p) i
inductive KP where
 |code (p:br) (c:Code)|block (id:Nat)|loop (p:br) (c:Code)
def lB (c:Code):br->List KP
 | []=> []
 |i::p=>
  match vo c p with
  | .seq _ b=>(match i with|0=>.code (1::p) b::lB c p|_=>lB c p)
  | .block id _=>.block id::lB c p
  | .loop b=>.loop p b::lB c p
  |_=>lB c p
structure Fx (E:Env) where
 fn:Func
 code:Code
 IQ:br
 ro:Bool
def Be (X:Fx E) (k:Nat):Bool:=aQ (Nat.beq k sP) X.ro (pnL X.IQ k)
inductive Md where
 |CP (c:Code) (p:br) (jD:Bool)|out (e:Ex)
inductive Stop where
 |at (p:br) (s:LS)|ret (y:AV) (bs:cL)
def eqP:br->br->Bool
 | []=>λq=>(match q with| []=>true|_=>false)
 |a::p=>λq=>(match q with| []=>false|b::q=>aQ (Nat.beq a b) (eqP p q) false)
def auY (p:br) (st:Stop):Option LS:=
 match st with
 | .at q s=>aQ (eqP q p) (some s) none
 |_=>none
def Ns (E:Env) (s:LS):ResultVar->AV
 | .tmp t=>(lk t s.ts).getD .undef
 | .cell t ty=>(bT (lk t s.ts) (E.ty.get ty) λa i=>Gw i s.bs a).getD .undef
def IT:bc->AV
 | [v]=>v
 |vs=>.cS vs
abbrev zM:=Option (Stop×List cD)
def att (X:Fx E) (st:Stop) (s:LS) (o:List cD):zM:=
 match st with
 | .ret y bs=>(λys:bc=>az (N5 s.bs bs) λbs=>aQ (sA ys) (some (.ret (cv y (IT ys)) bs,o)) none) (X.fn.results.toList.map (Ns E s))
 |_=>none
def retG (X:Fx E) (st:Stop) (s:LS) (sc:Sc E) (o:List cD):zM:=(λq:LS×List cD×Sc E=>att X st q.1 q.2.1) (BH (Be X) sc s o)
abbrev JY (E:Env):=Md->List KP->LS->Sc E->List cD->zM
def regK (X:Fx E) (ih:JY E) (ops:dd) (n:Nat) (draw:Bool) (ks:List KP) (s:LS) (sc:Sc E) (o:List cD):zM:=
 az (aQ draw (ayP E X.fn.ntmps (Be X) ops n s sc o) (aar E X.fn.ntmps (Be X) ops ops s sc o)) λr=>ih (.out .normal) ks r.1 r.2.2 r.2.1
def Qh (X:Fx E) (st:Stop) (ih:JY E) (c:Code) (p:br) (ks:List KP) (s:LS) (sc:Sc E) (o:List cD):zM:=
 match c with
 | .skip=>ih (.out .normal) ks s sc o
 | .seq a b=>ih (.CP a (0::p) true) (.code (1::p) b::ks) s sc o
 | .region _ ops draw=>regK X ih ops.toList ops.size draw ks s sc o
 | .cond x a b=>(match dU s.ts x with
  | .lit (.bool t)=>aQ t (ih (.CP a (0::p) true) ks s sc o) (ih (.CP b (1::p) true) ks s sc o)
  |_=>none)
 | .block id c=>ih (.CP c (0::p) true) (.block id::ks) s sc o
 | .loop c=>ih (.CP c (0::p) true) (.loop p c::ks) s sc o
 | .exit id=>ih (.out (.exit id)) ks s sc o
 | .ret=>ih (.out .ret) ks s sc o
 |_=>none
def abl (X:Fx E) (st:Stop) (ih:JY E) (e:Ex) (ks:List KP) (s:LS) (sc:Sc E) (o:List cD):zM:=
 match ks with
 | []=>aQ (PR e) (retG X st s sc o) none
 | .code p c::ks=>aQ (vu e) (ih (.CP c p true) ks s sc o) (ih (.out e) ks s sc o)
 | .block id::ks=>ih (.out (leave id e)) ks s sc o
 | .loop p c::ks=>aQ (vu e) (ih (.CP (.loop c) p true) ks s sc o) (ih (.out e) ks s sc o)
def aJH (ro:Bool) (p:br) (w:LS) (q:LS×List cD×Sc E):zM:=aQ ro none (az (N5 q.1.bs w.bs) λbs=>some (.at p ⟨cvT w.ts q.1.ts,bs⟩,q.2.1))
def UY (X:Fx E) (st:Stop) (ih:JY E) (m:Md) (ks:List KP) (s:LS) (sc:Sc E) (o:List cD):zM:=
 match m with
 | .CP c p jD=>aQ jD (match auY p st with
  |some w=>aJH (Be X sP) p w (BH (Be X) sc s o)
  |none=>Qh X st ih c p ks s sc o) (Qh X st ih c p ks s sc o)
 | .out e=>abl X st ih e ks s sc o
def runK (X:Fx E) (st:Stop) (n:Nat):JY E:=Nat.rec (λ_ _ _ _ _=>none) (λ_ ih=>UY X st ih) n
def qz (X:Fx E) (st:Stop) (p:br) (s:LS) (sc:Sc E):zM:=runK X st 100000 (.CP (vo X.code p) p false) (lB X.code p) s sc []
def KT (E:Env) (nt:Nat):List KP->Ex->MS->Ex->MS->Prop
 | [],e,m,e',m'=>e=e'/\m=m'
 | .code _ c::ks,e,m,e',m'=>if vu e=true then ∃e1 m1,jN E nt c m e1 m1/\KT E nt ks e1 m1 e' m' else KT E nt ks e m e' m'
 | .block id::ks,e,m,e',m'=>KT E nt ks (leave id e) m e' m'
 | .loop _ c::ks,e,m,e',m'=>if vu e=true then ∃e1 m1,jN E nt (.loop c) m e1 m1/\KT E nt ks e1 m1 e' m' else KT E nt ks e m e' m'
def KTC (E:Env) (nt:Nat) (c:Code) (ks:List KP) (m:MS) (e':Ex) (m':MS):Prop:=∃e1 m1,jN E nt c m e1 m1/\KT E nt ks e1 m1 e' m'
def MdT (E:Env) (nt:Nat) (md:Md) (ks:List KP) (m:MS) (e':Ex) (m':MS):Prop:=
 match md with
 | .CP c _ _=>KTC E nt c ks m e' m'
 | .out e=>KT E nt ks e m e' m'
def Holds (X:Fx E) (Q:Ex->WS->Prop) (ks:List KP) (s:LS) (md:Md):Prop:=∀w,In s w->∃e' w',MdT E X.fn.ntmps md ks w.m e' w'.m/\Ext (Be X) w w'/\Q e' w'
def Fin (X:Fx E) (y:AV) (gd:cL) (e:Ex) (w:WS):Prop:=PR e=true/\(∃vs,sy E w.m.T w.m.H X.fn.results.toList=some vs/\VA w.F w.g (oneOf vs) y)/\Rel w.F w.g w.Y w.c ⟨[],gd⟩ noT w.m.H/\∀x,w.m.nx<=x->w.m.H x=none
def AtQ (X:Fx E) (p:br) (s:LS) (Q:Ex->WS->Prop):Prop:=Holds X Q (lB X.code p) s (.CP (vo X.code p) p false)
def At (X:Fx E) (p:br) (s:LS) (y:AV) (gd:cL):Prop:=AtQ X p s (Fin X y gd)
def Holds.step {X:Fx E} {Q:Ex->WS->Prop} {ks I6:List KP} {md md':Md} (h:Holds X Q I6 s md') (k:∀{m e m'},MdT E X.fn.ntmps md' I6 m e m'->MdT E X.fn.ntmps md ks m e m'):Holds X Q ks s md:=λw hw=>
 let ⟨e,w',h1,h2,h3⟩:=h w hw
 ⟨e,w',k h1,h2,h3⟩
def Holds.lead {X:Fx E} {Q:Ex->WS->Prop} {ks I6:List KP} {md md':Md} (h:Holds X Q I6 s' md') (k:∀w,In s w->∃w1,In s' w1/\Ext (Be X) w w1/\∀{e m'},MdT E X.fn.ntmps md' I6 w1.m e m'->MdT E X.fn.ntmps md ks w.m e m'):Holds X Q ks s md:=λw hw=>
 let ⟨w1,k1,k2,k3⟩:=k w hw
 let ⟨e,w',h1,h2,h3⟩:=h w1 k1
 ⟨e,w',k3 h1,k2.trans h2,h3⟩
def Holds.UX {X:Fx E} {Q:Ex->WS->Prop} {ks:List KP} {md:Md} (h:Holds X Q ks s' md) (k:jP (Be X) s s') (iv:Be X sP=true->s'=s):Holds X Q ks s md:=h.lead λw hw=>
 let ⟨w1,k1,k2,k3⟩:=hw.UX k iv
 ⟨w1,k1,k2,λh=>k3 ▸ h⟩
def Wt {e:Ex} (h:vu e=true):e= .normal:=by cases e<;>first|rfl|cases h
def KTC.seq {a b:Code} {ks:List KP} {m m':MS} {e:Ex} (h:KTC E nt a (.code p b::ks) m e m'):KTC E nt (.seq a b) ks m e m':=by
 obtain ⟨e1,m1,h1,h2⟩:=h;unfold KT at h2;split at h2
 ·rename_i hn;obtain rfl:=Wt hn;obtain ⟨e2,m2,h3,h4⟩:=h2;exact ⟨e2,m2,.seq h1 h3,h4⟩
 ·rename_i hn;exact ⟨e1,m1,.aEN (by simpa using hn) h1,h2⟩
def KTC.loop {ks:List KP} {m m':MS} {e:Ex} (h:KTC E nt c (.loop p c::ks) m e m'):KTC E nt (.loop c) ks m e m':=by
 obtain ⟨e1,m1,h1,h2⟩:=h;unfold KT at h2;split at h2
 ·rename_i hn;obtain rfl:=Wt hn;obtain ⟨e2,m2,h3,h4⟩:=h2;exact ⟨e2,m2,.loop h1 h3,h4⟩
 ·rename_i hn;exact ⟨e1,m1,.aCd (by simpa using hn) h1,h2⟩
def KOK (X:Fx E):List KP->Prop
 | []=>True
 | .code p c::ks=>c=vo X.code p/\ks=lB X.code p/\KOK X ks
 | .loop p c::ks=>Code.loop c=vo X.code p/\ks=lB X.code p/\KOK X ks
 | .block _::ks=>KOK X ks
def I7 (X:Fx E):∀p,KOK X (lB X.code p)
 | []=>trivial
 |i::p=>by
  have ih:=I7 X p;unfold lB;split
  ·rename_i a b hc;split
   ·exact ⟨by simp[vo,hc,Cw],by simp[lB,hc],ih⟩
   ·exact ih
  ·exact ih
  ·rename_i b hc;exact ⟨hc.symm,rfl,ih⟩
  ·exact ih
def Hc (X:Fx E) (ks:List KP):Md->Prop
 | .CP c p _=>c=vo X.code p/\ks=lB X.code p
 | .out _=>True
def XU (X:Fx E) (Q:Ex->WS->Prop):Stop->Prop
 | .at p s=>AtQ X p s Q
 | .ret y bs=>∀e w,Fin X y bs e w->Q e w
def amC (X:Fx E) (Q:Ex->WS->Prop) (ih:JY E):Prop:=
 ∀m ks s sc o r,ih m ks s sc o=some r->iF r.2->KOK X ks->Hc X ks m->XU X Q r.1->iF o/\Holds X Q ks s m
def aBQ {F:Hf} {c:Nat->bP} (r:Rel F g Y c s T H) (hu:Ns E s x≠ .undef):∃v,Pe E T H x=some v/\VA F g v (Ns E s x):=by
 cases x with
 |tmp t=>
  have hu:(lk t s.ts).getD .undef≠ .undef:=hu;show ∃v,T t=some v/\VA F g v ((lk t s.ts).getD .undef);cases h:lk t s.ts with
  |none=>rw[h] at hu;exact absurd rfl hu
  |some x=>rw[h] at hu;exact r.tm t x h hu
 |cell t ty=>
  have hu:(bT (lk t s.ts) (E.ty.get ty) λa i=>Gw i s.bs a).getD .undef≠ .undef:=hu
  show ∃v,az (T t) (oX E H ty)=some v/\VA F g v ((bT (lk t s.ts) (E.ty.get ty) λa i=>Gw i s.bs a).getD .undef)
  cases h:bT (lk t s.ts) (E.ty.get ty) λa i=>Gw i s.bs a with
  |none=>rw[h] at hu;exact absurd rfl hu
  |some x=>
   obtain ⟨a,i,h1,h2,h3⟩:=bp h;obtain ⟨v,v1,v2⟩:=r.tm t a h1 (λe=>by subst e;cases h3)
   obtain ⟨u,u1,u2⟩:=aif (E:=E) (t:=ty) h2 h3 r v2;refine ⟨u,?_,u2⟩;rw[v1];show oX E H ty v=_;cases hl:oX E H ty v with
   |none=>rw[hl] at u1;cases u1
   |some z=>rw[hl] at u1;cases u1;rfl
def ahC {F:Hf} {g:Gb} {Y:Nat->Ow} {c:Nat->bP} {T:Tf} {H:Hf} (r:Rel F g Y c s T H):∀{l:List ResultVar},sA (l.map (Ns E s))=true->∃vs,sy E T H l=some vs/\dA F g vs (l.map (Ns E s))
 | [],_=>⟨[],rfl,.nil⟩
 |x::l,h=>by
  have h:aQ (sF (Ns E s x)) false (sA (l.map (Ns E s)))=true:=h;rw[bH] at h;split at h
  ·cases h
  ·rename_i hx;obtain ⟨v,v1,v2⟩:=aBQ (E:=E) r (Gz (by simpa using hx))
   obtain ⟨vs,w1,w2⟩:=ahC r h;exact ⟨v::vs,by show bT _ _ _=_;rw[v1,w1];rfl,.cons v2 w2⟩
def aBP {X:Fx E} {Q:Ex->WS->Prop} {st:Stop} {sc:Sc E} {r:Stop×List cD} {e:Ex} (he:PR e=true) (h:retG X st s sc o=some r) (ho:iF r.2) (hp:XU X Q r.1):iF o/\Holds X Q [] s (.out e):=by
 have h:att X st (BH (Be X) sc s o).1 (BH (Be X) sc s o).2.1=some r:=h;unfold att at h;split at h
 ·rename_i y bs _;obtain ⟨gd,h1,h⟩:=aq h;obtain ⟨h2,h⟩:=aV h;cases h;obtain ⟨k1,k2,k3⟩:=Jy sc s o ho;refine ⟨k1,Holds.UX (λw hw=>⟨e,w,⟨rfl,rfl⟩,.refl w,hp e w ⟨he,?_,?_,hw.bd⟩⟩) k2 k3⟩
  ·obtain ⟨vs,v1,v2⟩:=ahC (E:=E) hw.r h2;refine ⟨vs,v1,CS ?_⟩;generalize X.fn.results.toList.map _=ys at v2;cases v2 with
   |nil=>exact .cS .nil
   |cons a b=>cases b with
    |nil=>exact a
    |cons b c=>exact .cS (.cons a (.cons b c))
  ·have:=hw.r.cv (w:=⟨[],bs⟩) h1;exact {this with tm:=λt x hx=>(by cases hx)}
 ·cases h
def WE {X:Fx E} {Q:Ex->WS->Prop} {st:Stop} {ih:JY E} {ks:List KP} {sc:Sc E} {r:Stop×List cD} {jD:Bool} (BB:amC X Q ih) (h:Qh X st ih c p ks s sc o=some r) (ho:iF r.2) (hk:KOK X ks) (h1:c=vo X.code p) (h2:ks=lB X.code p) (hp:XU X Q r.1):iF o/\Holds X Q ks s (.CP c p jD):=by
 unfold Qh at h;split at h
 ·obtain ⟨q1,q2⟩:=BB _ _ _ _ _ _ h ho hk trivial hp;exact ⟨q1,q2.step λh=>⟨_,_,.skip,h⟩⟩
 ·rename_i a b;obtain ⟨q1,q2⟩:=BB _ _ _ _ _ _ h ho ⟨by simp[vo,<-h1,Cw],by simp[lB,<-h1,h2],hk⟩ ⟨by simp[vo,<-h1,Cw],by simp[lB,<-h1,h2]⟩ hp
  exact ⟨q1,q2.step λh=>KTC.seq h⟩
 ·rename_i id ops draw;obtain ⟨q,h3,h⟩:=aq h;obtain ⟨q1,q2⟩:=BB _ _ _ _ _ _ h ho hk trivial hp;rw[bH] at h3;split at h3
  ·rename_i hd;subst hd;obtain ⟨q3,q4⟩:=avw (id:=id) h3 q1;exact ⟨q3,q2.lead λw hw=>let ⟨w1,a,b,c⟩:=q4 w hw;⟨w1,b,c,λh=>⟨_,_,a,h⟩⟩⟩
  ·rename_i hd;obtain rfl:draw=false:=by simpa using hd
   obtain ⟨q3,q4⟩:=Wl (i:=0) (ops:=ops) (by simp) (qK _) h3 q1
   exact ⟨q3,q2.lead λw hw=>let ⟨w1,a,b,c⟩:=q4 w hw;⟨w1,b,c,λh=>⟨_,_,.region a,h⟩⟩⟩
 ·rename_i x a b;split at h
  ·rename_i t hv;have hc:∀w,In s w->cE w.m.T x=some (.bool t):=λw hw=>by
    obtain ⟨v,v1,v2⟩:=hw.r.val hv (by simp)
    cases v2;exact v1
   rw[bH] at h;split at h
   ·rename_i ht;subst ht;obtain ⟨q1,q2⟩:=BB _ _ _ _ _ _ h ho hk ⟨by simp[vo,<-h1,Cw],by simp[lB,<-h1,h2]⟩ hp
    exact ⟨q1,q2.lead λw hw=>⟨w,hw,.refl w,λ⟨e1,m1,k1,k2⟩=>⟨e1,m1,.cond (b:=true) (hc w hw) k1,k2⟩⟩⟩
   ·rename_i ht;obtain rfl:t=false:=by simpa using ht
    obtain ⟨q1,q2⟩:=BB _ _ _ _ _ _ h ho hk ⟨by simp[vo,<-h1,Cw],by simp[lB,<-h1,h2]⟩ hp
    exact ⟨q1,q2.lead λw hw=>⟨w,hw,.refl w,λ⟨e1,m1,k1,k2⟩=>⟨e1,m1,.cond (b:=false) (hc w hw) k1,k2⟩⟩⟩
  ·cases h
 ·rename_i id c;obtain ⟨q1,q2⟩:=BB _ _ _ _ _ _ h ho hk ⟨by simp[vo,<-h1,Cw],by simp[lB,<-h1,h2]⟩ hp
  exact ⟨q1,q2.step λ⟨e1,m1,k1,k2⟩=>⟨_,m1,.block k1,k2⟩⟩
 ·rename_i c;obtain ⟨q1,q2⟩:=BB _ _ _ _ _ _ h ho ⟨h1,h2,hk⟩ ⟨by simp[vo,<-h1,Cw],by simp[lB,<-h1,h2]⟩ hp
  exact ⟨q1,q2.step λh=>KTC.loop h⟩
 ·obtain ⟨q1,q2⟩:=BB _ _ _ _ _ _ h ho hk trivial hp;exact ⟨q1,q2.step λh=>⟨_,_,.exit,h⟩⟩
 ·obtain ⟨q1,q2⟩:=BB _ _ _ _ _ _ h ho hk trivial hp;exact ⟨q1,q2.step λh=>⟨_,_,.ret,h⟩⟩
 ·cases h
def apU {X:Fx E} {Q:Ex->WS->Prop} {st:Stop} {ih:JY E} {e:Ex} {ks:List KP} {sc:Sc E} {r:Stop×List cD} (BB:amC X Q ih) (h:abl X st ih e ks s sc o=some r) (ho:iF r.2) (hk:KOK X ks) (hp:XU X Q r.1):iF o/\Holds X Q ks s (.out e):=by
 unfold abl at h;split at h
 ·obtain ⟨he,h⟩:=aV h;exact aBP he h ho hp
 ·rename_i p c ks;obtain ⟨k1,k2,k3⟩:=hk;rw[bH] at h;split at h
  ·rename_i he;obtain ⟨q1,q2⟩:=BB _ _ _ _ _ _ h ho k3 ⟨k1,k2⟩ hp;exact ⟨q1,q2.step λh=>by show KT E _ (.code p c::ks) e _ _ _;unfold KT;rw[aH he];exact h⟩
  ·rename_i he;obtain ⟨q1,q2⟩:=BB _ _ _ _ _ _ h ho k3 trivial hp;exact ⟨q1,q2.step λh=>by show KT E _ (.code p c::ks) e _ _ _;unfold KT;rw[aL he];exact h⟩
 ·rename_i id ks;obtain ⟨q1,q2⟩:=BB _ _ _ _ _ _ h ho hk trivial hp;exact ⟨q1,q2.step λh=>h⟩
 ·rename_i p c ks;obtain ⟨k1,k2,k3⟩:=hk;rw[bH] at h;split at h
  ·rename_i he;obtain ⟨q1,q2⟩:=BB _ _ _ _ _ _ h ho k3 ⟨k1,k2⟩ hp;exact ⟨q1,q2.step λh=>by show KT E _ (.loop p c::ks) e _ _ _;unfold KT;rw[aH he];exact h⟩
  ·rename_i he;obtain ⟨q1,q2⟩:=BB _ _ _ _ _ _ h ho k3 trivial hp;exact ⟨q1,q2.step λh=>by show KT E _ (.loop p c::ks) e _ _ _;unfold KT;rw[aL he];exact h⟩
def UZ (X:Fx E) (st:Stop) (Q:Ex->WS->Prop):∀n,amC X Q (runK X st n)
 |0=>λm ks s sc o r h=>by
  have h:none=some r:=h;cases h
 |n+1=>λm ks s sc o r h ho hk hm hp=>by
  have ih:=UZ X st Q n;have h:UY X st (runK X st n) m ks s sc o=some r:=h;cases m with
  |out e=>exact apU ih h ho hk hp
  |CP c p jD=>
   obtain ⟨m1,m2⟩:=hm;unfold UY at h;dsimp only at h;rw[bH] at h;split at h
   ·split at h
    ·rename_i l hl;have h:aQ (Be X sP) none (az (N5 (BH (Be X) sc s o).1.bs l.bs) λbs=>some (Stop.at p ⟨cvT l.ts (BH (Be X) sc s o).1.ts,bs⟩,(BH (Be X) sc s o).2.1))=some r:=h
     rw[bH] at h;split at h
     ·cases h
     rename_i hr;obtain ⟨bs,h1,h⟩:=aq h;cases h;obtain ⟨k1,k2,_⟩:=Jy sc s o ho;subst m1;subst m2;exact ⟨k1,Holds.UX hp (k2.trans (jP.cv h1)) λh=>absurd h hr⟩
    ·exact WE ih h ho hk m1 m2 hp
   ·exact WE ih h ho hk m1 m2 hp
abbrev Shw:=Option (Stop×List Prop)
def Ga (r:zM):Shw:= @Option.rec (Stop×List cD) (λ_=>Shw) none (λq=>some (q.1,q.2.map cD.need)) r
def Gc (st:Stop) (r:zM):Shw:= @Option.rec (Stop×List cD) (λ_=>Shw) (some (st,[])) (λq=>some (st,q.2.map cD.got)) r
def aiL:∀{l:List cD},l.map cD.need=l.map cD.got->iF l
 | [],_=>trivial
 |q::l,h=>by
  rw[jc,jc,List.cons.injEq] at h;exact ⟨h.1 ▸ q.pf,aiL h.2⟩
def apd {st:Stop} {r:zM} (h:Ga r=Gc st r):∃o,r=some (st,o)/\iF o:=by
 cases r with
 |none=>cases h
 |some q=>
  have h:some (q.1,q.2.map cD.need)=some (st,q.2.map cD.got):=h;rw[KB,Prod.mk.injEq] at h;exact ⟨q.2,by rw[<-h.1],aiL h.2⟩
def aaq {X:Fx E} {p':br} {s s':LS} {sc:Sc E} (h:Ga (qz X (.at p' s') p s sc)=Gc (.at p' s') (qz X (.at p' s') p s sc)) (k:At X p' s' y gd):At X p s y gd:=by
 obtain ⟨o,h1,h2⟩:=apd h;exact (UZ X _ _ _ _ _ _ _ _ _ h1 h2 (I7 X p) ⟨rfl,rfl⟩ k).2
def ahz {X:Fx E} {s:LS} {sc:Sc E} (h:Ga (qz X (.ret y gd) p s sc)=Gc (.ret y gd) (qz X (.ret y gd) p s sc)):At X p s y gd:=by
 obtain ⟨o,h1,h2⟩:=apd h;exact (UZ X _ _ _ _ _ _ _ _ _ h1 h2 (I7 X p) ⟨rfl,rfl⟩ λe w h=>h).2
end
section
section
variable {F F':Hf} {g g':Gb} {s s' s1:LS} {E:Env} {nt:Nat}
variable {y:AV} {gd:cL}
def C4:Nat->bc->fA
 |_,[]=> []
 |i,x::l=>(i,x)::C4 (i+1) l
def acK:∀{xs:bc} {aa:aY},dA F g aa xs->∀{i t:Nat} {x:AV},lk t (C4 i xs)=some x->∃v,i<=t/\t<i+aa.length/\aa[t-i]? =some v/\VA F g v x
 | [],_,_,i,t,x,h=>by cases h
 |y::l,_,.cons (vs:=vs) hv q,i,j,x,h=>by
  rw[show C4 i (y::l)=(i,y)::C4 (i+1) l from rfl,dz] at h;split at h
  ·rename_i e;cases h;subst e;exact ⟨_,dg _,by simp,by simp,hv⟩
  ·obtain ⟨v,a1,a2,a3,a4⟩:=acK q h;refine ⟨v,by omega,by rw[kr];omega,?_,a4⟩
   rw[show j-i=(j-(i+1))+1 by omega,rT]
   exact a3
def arx {e:Ex} (h:PR e=true):LW e=some none:=by cases e<;>first|rfl|cases h
def G3 [Hw E] {X:Fx E} {s:LS} (h1:E.fn.get f=some X.fn) (h2:X.fn.body=some X.code) (h3:yQ X.fn.name=false) (hn:Nat.ble xs.length X.fn.ntmps=true) (hp:uK s.bs=X.IQ) (hs:(⟨C4 0 xs,s.bs⟩:LS)=s) (h:At X [] s y gd):kn X.ro E f s.bs xs y gd:=.mk λ{F g Y c H nx aa} r fc has=>by
 have r0:Rel F g Y c s (setArgs aa 0 .nil).get H:={r with tm:=λt x hx cZ=>(by
  rw[<-hs] at hx;obtain ⟨v,a1,a2,a3,a4⟩:=acK has hx;exact ⟨v,by rw[Dp,aH ⟨a1,a2⟩];exact a3,a4⟩)}
 obtain ⟨e,w',k1,k2,k3,⟨vs,k4,k5⟩,k6,k7⟩:=h ⟨F,g,Y,c,⟨(setArgs aa 0 .nil).get,H,nx⟩⟩ ⟨r0,fc⟩;obtain ⟨e1,m1,k8,rfl,rfl⟩:=k1;rw[hp];refine ⟨w'.F,w'.g,w'.Y,w'.c,oneOf vs,w'.m.H,w'.m.nx,?_,k2.nx,k7,k2.F,λk hk=>k2.g k ?_,k5,k6,k2.old,λhr=>k2.ro (by show aQ (Nat.beq sP sP) X.ro (pnL X.IQ sP)=true;rw[show Nat.beq sP sP=true from (beq_iff _ _).2 rfl];exact hr)⟩
 rotate_left
 ·show aQ (Nat.beq k sP) X.ro (pnL X.IQ k)=true;rw[bH];split
  ·rename_i e;rw[(beq_iff _ _).1 e] at hk;have:mJ sP=false/\evK sP=false:=⟨rfl,rfl⟩;unfold pnL at hk;rw[this.1,this.2] at hk;cases hk
  ·exact hk
 exact jN.IG (fi:= []) (aa:=aa) (ca:= []) h1 h2 h3 (by rw[jW,tN,has.length];exact (bV _ _).1 hn) (arx k3) (by rw[jW,tN];exact k8) k4
def gn.cast {y':AV} (h:kn ro E f bs xs y gd) (e:y=y'):kn ro E f bs xs y' gd:=e ▸ h
end
def gn.ayT {E:Env} {gd:cL} {xs':bc} {y:AV} (h:kn ro E f bs xs y gd) (e:xs=xs'):kn ro E f bs xs' y gd:=e ▸ h
def alV {E:Env} {ro':Bool} (e:ro=ro') {gd:cL} {y:AV} (h:kn ro E f bs xs y gd):kn ro' E f bs xs y gd:=e ▸ h
variable {E:Env} {X:Fx E} {p p':br} {s s':LS} {y:AV} {gd:cL} {J O R:Type}
def ra (k:At X p' s' y gd) (sc:Sc E) (h:Ga (qz X (.at p' s') p s sc)=Gc (.at p' s') (qz X (.at p' s') p s sc):=by kernel_rfl):At X p s y gd:=aaq h k
def rr {f:J->AV} {g:J->cL} {v r:J} (h:some v=some r) (sc:Sc E) (e:Ga (qz X (.ret (f v) (g v)) p s sc)=Gc (.ret (f v) (g v)) (qz X (.ret (f v) (g v)) p s sc):=by kernel_rfl):At X p s (f r) (g r):=by
 cases h;exact ahz e
def cI (k:At X p' s' y gd) (a b:Sc E) (h:Ga (qz X (.at p' s') p s (a++b))=Gc (.at p' s') (qz X (.at p' s') p s (a++b)):=by kernel_rfl):At X p s y gd:=aaq h k
def bD {f:J->AV} {g:J->cL} {v r:J} (h:some v=some r) (a b:Sc E) (e:Ga (qz X (.ret (f v) (g v)) p s (a++b))=Gc (.ret (f v) (g v)) (qz X (.ret (f v) (g v)) p s (a++b)):=by kernel_rfl):At X p s (f r) (g r):=rr h (a++b) e
def be {x:Option O} {f:O->Option J} {r:J} (h:x.bind f=some r) (k:∀y,x=some y->f y=some r->G):G:=by
 cases x with
 |none=>simp at h
 |some y=>exact k y rfl h
def ie {x y:Option J} {r:J} (h:(if b=true then x else y)=some r) (k1:b=true->x=some r->G) (k2:b=false->y=some r->G):G:=by
 cases b with
 |true=>exact k1 rfl (by simpa using h)
 |false=>exact k2 rfl (by simpa using h)
def nz {r:J} (h:none=some r):G:=by cases h
def fx (E:Env) (fn:Func) (IQ:br):Fx E:=⟨fn,fn.body.getD .skip,IQ,false⟩
def fxR (E:Env) (fn:Func) (IQ:br):Fx E:=⟨fn,fn.body.getD .skip,IQ,true⟩
def Cx (E:Env) (k:Nat) (f:R->AV) (g:R->cL) (s:LS) (r:R):Prop:=gn E k s.bs (s.ts.map (·.2)) (f r) (g r)
def ca [Hw E] {r:R} {f:R->AV} {g:R->cL} (h:At X [] s (f r) (g r)) (h1:E.fn.get k=some X.fn:=by kernel_rfl) (h2:X.fn.body=some X.code:=by kernel_rfl) (h3:yQ X.fn.name=false:=by kernel_rfl) (h9:Nat.ble (s.ts.map (·.2)).length X.fn.ntmps=true:=by kernel_rfl) (h10:uK s.bs=X.IQ:=by kernel_rfl) (h11:(⟨C4 0 (s.ts.map (·.2)),s.bs⟩:LS)=s:=by kernel_rfl) (h0:X.ro=false:=by kernel_rfl):Cx E k f g s r:=
 alV h0 (G3 h1 h2 h3 h9 h10 h11 h)
def ua (sk:br) (bs:cL):cL:=sk.map λk=>(k,(lk k bs).getD (.map []))
def CxSR (E:Env) (k:Nat) (sk:br) (f:R->AV) (g:R->cL) (s:LS) (r:R):Prop:=kn true E k s.bs (s.ts.map (·.2)) (f r) (g r++ua sk s.bs)
def caSR [Hw E] {r:R} {f:R->AV} {g:R->cL} (h:At X [] s (f r) (g r++ua sk s.bs)) (h1:E.fn.get k=some X.fn:=by kernel_rfl) (h2:X.fn.body=some X.code:=by kernel_rfl) (h3:yQ X.fn.name=false:=by kernel_rfl) (h9:Nat.ble (s.ts.map (·.2)).length X.fn.ntmps=true:=by kernel_rfl) (h10:uK s.bs=X.IQ:=by kernel_rfl) (h11:(⟨C4 0 (s.ts.map (·.2)),s.bs⟩:LS)=s:=by kernel_rfl) (h0:X.ro=true:=by kernel_rfl):CxSR E k sk f g s r:=
 alV h0 (G3 h1 h2 h3 h9 h10 h11 h)
def aof {J:Type} (s:List J):Option (J×List J):=match s with| []=>none|x::l=>some (x,l)
def aoe {J:Type} {s:List J} {y:J×List J} (h:aof s=some y):s=y.1::y.2:=by
 cases s with
 |nil=>cases h
 |cons x l=>cases h;rfl
def aKQ (k:Nat):AV:=match k with|0=>.pd|n+1=>.fn (n+1) [] []
def Ax (X:Fx E) (f:R->AV) (g:R->cL) (p:br) (s:LS) (r:R):Prop:=At X p s (f r) (g r)
def K0 (A:LS->R->Prop) (s:LS) (k:Option R):Prop:=∀ ⦃r:R⦄,k=some r->A s r
variable {T0 T1 T2 T3 T4 T5 T6 T7 T8 T9 xn zU C9 H4 T14 T15 T16 T17 T18:Type}
def K1 (A:LS->R->Prop) (s:T0->LS) (k:T0->Option R):Prop:=∀ ⦃a⦄,K0 A (s a) (k a)
def K2 (A:LS->R->Prop) (s:T0->T1->LS) (k:T0->T1->Option R):Prop:=∀ ⦃a⦄,K1 A (s a) (k a)
def K3 (A:LS->R->Prop) (s:T0->T1->T2->LS) (k:T0->T1->T2->Option R):Prop:=∀ ⦃a⦄,K2 A (s a) (k a)
def K4 (A:LS->R->Prop) (s:T0->T1->T2->T3->LS) (k:T0->T1->T2->T3->Option R):Prop:=∀ ⦃a⦄,K3 A (s a) (k a)
def K5 (A:LS->R->Prop) (s:T0->T1->T2->T3->T4->LS) (k:T0->T1->T2->T3->T4->Option R):Prop:=∀ ⦃a⦄,K4 A (s a) (k a)
def K6 (A:LS->R->Prop) (s:T0->T1->T2->T3->T4->T5->LS) (k:T0->T1->T2->T3->T4->T5->Option R):Prop:=∀ ⦃a⦄,K5 A (s a) (k a)
def K7 (A:LS->R->Prop) (s:T0->T1->T2->T3->T4->T5->T6->LS) (k:T0->T1->T2->T3->T4->T5->T6->Option R):Prop:=∀ ⦃a⦄,K6 A (s a) (k a)
def K8 (A:LS->R->Prop) (s:T0->T1->T2->T3->T4->T5->T6->T7->LS) (k:T0->T1->T2->T3->T4->T5->T6->T7->Option R):Prop:=∀ ⦃a⦄,K7 A (s a) (k a)
def K9 (A:LS->R->Prop) (s:T0->T1->T2->T3->T4->T5->T6->T7->T8->LS) (k:T0->T1->T2->T3->T4->T5->T6->T7->T8->Option R):Prop:=∀ ⦃a⦄,K8 A (s a) (k a)
def K10 (A:LS->R->Prop) (s:T0->T1->T2->T3->T4->T5->T6->T7->T8->T9->LS) (k:T0->T1->T2->T3->T4->T5->T6->T7->T8->T9->Option R):Prop:=∀ ⦃a⦄,K9 A (s a) (k a)
def K11 (A:LS->R->Prop) (s:T0->T1->T2->T3->T4->T5->T6->T7->T8->T9->xn->LS) (k:T0->T1->T2->T3->T4->T5->T6->T7->T8->T9->xn->Option R):Prop:=∀ ⦃a⦄,K10 A (s a) (k a)
def K12 (A:LS->R->Prop) (s:T0->T1->T2->T3->T4->T5->T6->T7->T8->T9->xn->zU->LS) (k:T0->T1->T2->T3->T4->T5->T6->T7->T8->T9->xn->zU->Option R):Prop:=∀ ⦃a⦄,K11 A (s a) (k a)
def K13 (A:LS->R->Prop) (s:T0->T1->T2->T3->T4->T5->T6->T7->T8->T9->xn->zU->C9->LS) (k:T0->T1->T2->T3->T4->T5->T6->T7->T8->T9->xn->zU->C9->Option R):Prop:=∀ ⦃a⦄,K12 A (s a) (k a)
def K14 (A:LS->R->Prop) (s:T0->T1->T2->T3->T4->T5->T6->T7->T8->T9->xn->zU->C9->H4->LS) (k:T0->T1->T2->T3->T4->T5->T6->T7->T8->T9->xn->zU->C9->H4->Option R):Prop:=∀ ⦃a⦄,K13 A (s a) (k a)
def K15 (A:LS->R->Prop) (s:T0->T1->T2->T3->T4->T5->T6->T7->T8->T9->xn->zU->C9->H4->T14->LS) (k:T0->T1->T2->T3->T4->T5->T6->T7->T8->T9->xn->zU->C9->H4->T14->Option R):Prop:=∀ ⦃a⦄,K14 A (s a) (k a)
def K16 (A:LS->R->Prop) (s:T0->T1->T2->T3->T4->T5->T6->T7->T8->T9->xn->zU->C9->H4->T14->T15->LS) (k:T0->T1->T2->T3->T4->T5->T6->T7->T8->T9->xn->zU->C9->H4->T14->T15->Option R):Prop:=∀ ⦃a⦄,K15 A (s a) (k a)
def K17 (A:LS->R->Prop) (s:T0->T1->T2->T3->T4->T5->T6->T7->T8->T9->xn->zU->C9->H4->T14->T15->T16->LS) (k:T0->T1->T2->T3->T4->T5->T6->T7->T8->T9->xn->zU->C9->H4->T14->T15->T16->Option R):Prop:=∀ ⦃a⦄,K16 A (s a) (k a)
def K18 (A:LS->R->Prop) (s:T0->T1->T2->T3->T4->T5->T6->T7->T8->T9->xn->zU->C9->H4->T14->T15->T16->T17->LS) (k:T0->T1->T2->T3->T4->T5->T6->T7->T8->T9->xn->zU->C9->H4->T14->T15->T16->T17->Option R):Prop:=∀ ⦃a⦄,K17 A (s a) (k a)
def K19 (A:LS->R->Prop) (s:T0->T1->T2->T3->T4->T5->T6->T7->T8->T9->xn->zU->C9->H4->T14->T15->T16->T17->T18->LS) (k:T0->T1->T2->T3->T4->T5->T6->T7->T8->T9->xn->zU->C9->H4->T14->T15->T16->T17->T18->Option R):Prop:=∀ ⦃a⦄,K18 A (s a) (k a)
def rrS {f:J->AV} {g:J->cL} {v r:J} (h:some v=some r) (sc:Sc E) (e:Ga (qz X (.ret (f v) (g v++ua sk s.bs)) p s sc)=Gc (.ret (f v) (g v++ua sk s.bs)) (qz X (.ret (f v) (g v++ua sk s.bs)) p s sc):=by kernel_rfl):At X p s (f r) (g r++ua sk s.bs):=by
 cases h;exact ahz e
def AxS (X:Fx E) (sk:br) (f:R->AV) (g:R->cL) (p:br) (s:LS) (r:R):Prop:=At X p s (f r) (g r++ua sk s.bs)
def CxS (E:Env) (k:Nat) (sk:br) (f:R->AV) (g:R->cL) (s:LS) (r:R):Prop:=gn E k s.bs (s.ts.map (·.2)) (f r) (g r++ua sk s.bs)
def caS [Hw E] {r:R} {f:R->AV} {g:R->cL} (h:At X [] s (f r) (g r++ua sk s.bs)) (h1:E.fn.get k=some X.fn:=by kernel_rfl) (h2:X.fn.body=some X.code:=by kernel_rfl) (h3:yQ X.fn.name=false:=by kernel_rfl) (h9:Nat.ble (s.ts.map (·.2)).length X.fn.ntmps=true:=by kernel_rfl) (h10:uK s.bs=X.IQ:=by kernel_rfl) (h11:(⟨C4 0 (s.ts.map (·.2)),s.bs⟩:LS)=s:=by kernel_rfl) (h0:X.ro=false:=by kernel_rfl):CxS E k sk f g s r:=
 alV h0 (G3 h1 h2 h3 h9 h10 h11 h)
def raS {g:cL} (k:At X p' s' y (g++ua sk s'.bs)) (hs:ua sk s'.bs=ua sk s.bs) (sc:Sc E) (h:Ga (qz X (.at p' s') p s sc)=Gc (.at p' s') (qz X (.at p' s') p s sc):=by kernel_rfl):At X p s y (g++ua sk s.bs):=aaq h (hs ▸ k)
end
section
def idx {J:Type} (xs:List J) (i:Int):Option J:=if 0<=i then xs[i.toNat]? else none
def app {J:Type} (xs ys:List J):Option (List J):=if xs.length<=1000000/\ys.length<=1000000 then some (xs++ys) else none
def G6 {J:Type} (xs:List J) (n:Nat) (ys:List J):Option (List J):=if n<=xs.length/\n<=1000000/\ys.length<=1000000 then some (xs.take n++ys) else none
def cut {J:Type} (xs:List J) (lo hi:Option Int):Option (List J):=
 if 0<=lo.getD 0/\0<=hi.getD 0/\(lo.getD 0).toNat<=(hi.map Int.toNat).getD xs.length/\(hi.map Int.toNat).getD xs.length<=xs.length then
  some ((xs.take ((hi.map Int.toNat).getD xs.length)).drop (lo.getD 0).toNat) else none
def cat (a b:ByteArray):Option ByteArray:=if a.size+b.size<=1000000 then some (a++b) else none
def Dx (s:ByteArray) (i:Int):Option UInt8:=if 0<=i then s.data.toList[i.toNat]? else none
def quo (k:IntKind) (a b:Int):Option Int:=if b=0 then none else some (k.wrap (a.tdiv b))
def rem (a b:Int):Option Int:=if b=0 then none else some (a.tmod b)
def eW (n:Nat) (i:Int):bP:=if 0<=i/\i.toNat<n then some i.toNat else none
def setAt {J:Type} (xs:List J) (i:Nat) (x:J):Option (List J):=if i<xs.length then some (xs.set i x) else none
def rA {J:Type} (n:Int) (x:J):Option (List J):=if 0<=n/\n<=1000000 then some (List.replicate n.toNat x) else none
abbrev bl (x:Int):Int:=IntKind.i64.wrap x
structure RowsK {J:Type} (enc:J->bc) (rows:List J->bA):Prop where
 map:∀xs,rows xs=xs.map enc
section
variable {J:Type} {enc:J->bc} {rows:List J->bA} {E:Env}
def RowsK.len (R:RowsK enc rows) (xs:List J):(rows xs).length=xs.length:=by rw[R.map,nS]
def RowsK.get (R:RowsK enc rows) {xs:List J} {x:J} (h:xs[j]? =some x):(rows xs)[j]? =some (enc x):=by rw[R.map,lz,h];rfl
def RowsK.idx' (R:RowsK enc rows) {xs:List J} {n:Int} {x:J} (h:idx xs n=some x):yY (rows xs) n=some (enc x):=by
 unfold Go.bX.idx at h;unfold yY;split at h
 ·rename_i h0;rw[aH h0];exact R.get h
 ·cases h
def RowsK.idx (R:RowsK enc rows) {xs:List J} {n:Int} {x:J} (h:idx xs n=some x):It E:=.op (R.idx' h) (.row (enc x) [])
def RowsK.row (R:RowsK enc rows) {xs:List J} {j:Nat} {x:J} (h:xs[j]? =some x):It E:=.op (R.get h) (.row (enc x) [])
def avL {i:Int} (h:eW n i=some k):i=(k:Int)/\k<n:=by
 unfold eW at h;split at h
 ·rename_i h0;cases h;exact ⟨by omega,h0.2⟩
 ·cases h
def dM {n:Nat} {i:Int} {k:Nat} (h:eW n i=some k):It E:=.op (avL h) (.nat k)
def Ab {xs zs:List J} {y:J} (h:setAt xs i y=some zs):zs=xs.set i y/\i<xs.length:=by
 unfold setAt at h;split at h
 ·cases h;exact ⟨rfl,by assumption⟩
 ·cases h
def nj {xs zs:List J} {y:J} (h:setAt xs i y=some zs):zs.length=xs.length:=by rw[(Ab h).1,nc]
def yf {xs ys zs:List J} (h:app xs ys=some zs):xs.length<=1000000/\ys.length<=1000000/\zs=xs++ys:=by
 unfold app at h;split at h
 ·rename_i h0;cases h;exact ⟨h0.1,h0.2,rfl⟩
 ·cases h
def RowsK.appP (R:RowsK enc rows) {xs ys zs:List J} (h:Go.bX.app xs ys=some zs):V8 true (rows xs) xs.length (rows zs) zs.length (rows ys):=
 ⟨λ_=>(R.len xs).symm,by rw[R.len];exact dg _,(yf h).1,by rw[R.len];exact (yf h).2.1,by rw[<-R.len xs,xx,(yf h).2.2,R.map,R.map,R.map,mB],R.len zs⟩
def RowsK.app (R:RowsK enc rows) {xs ys zs:List J} (h:Go.bX.app xs ys=some zs):It E:=.op (R.appP h) (.app true (rows ys) (rows zs) zs.length)
def RowsK.kF (R:RowsK enc rows) {xs ys zs:List J} (h:Go.bX.app xs ys=some zs):It E:=
 .op (P:=V8 true (rows xs) xs.length (rows zs) zs.length (rows ys)/\((rows ys).drop 0).take ys.length=rows ys/\0+ys.length<=(rows ys).length) ⟨R.appP h,by rw[rR,<-R.len,xx],by rw[R.len];omega⟩ (.app true (rows ys) (rows zs) zs.length)
def RowsK.fX (R:RowsK enc rows) (K:Nat) (xs:List J):It E:=.gh ⟨R.len xs,.fX K 0 xs.length⟩
end
abbrev eb {E:Env} {a b:Bool} (h:a=b):It E:=.op (bN AV.bool h) (.eqv (.bool b))
def cb {E:Env} {gd:cL} {a:Bool} (h:gn E f bs xs (.bool a) gd) (e:a=b):gn E f bs xs (.bool b) gd:=e ▸ h
def G2 {a b c:ByteArray} (h:cat a b=some c):a.size+b.size<=1000000/\a++b=c:=by
 unfold cat at h;split at h
 ·rename_i h0;cases h;exact ⟨h0,rfl⟩
 ·cases h
def aaD {b c:Int} (h:rem a b=some c):b≠0/\a.tmod b=c:=by
 unfold rem at h;split at h
 ·cases h
 ·rename_i h0;cases h;exact ⟨h0,rfl⟩
section
variable {E:Env}
variable {s:ByteArray} {c:UInt8} {gd:cL}
def It.nz {y:Int} (h:y≠0):It E:=.op h (.val 0)
def It.cat {x y:ByteArray} (h:x.size+y.size<=1000000):It E:=.op h (.val 0)
def aui {i:Int} (h:Dx s i=some c):(yY s.data.toList i).map UInt8.toNat=some c.toNat:=by
 have h:yY s.data.toList i=some c:=h;rw[h];rfl
def It.chr {s:ByteArray} {i:Int} {c:UInt8} (h:Dx s i=some c):It E:=.op (aui h) (.val c.toNat)
def It.eqv {x y:AV} (h:x=y):It E:=.op h (.eqv y)
def It.laid {b b':Bx} (h:b=b'):It E:=.op (bN some h) (.laid b')
def It.jq (K K':Nat):It E:=.gh ⟨trivial,.jq K K'⟩
def It.born (ts:br) (cs:List (Nat×Nat)) (K:Nat) (z:Bool) (e sz:Nat):It E:=.gh ⟨trivial,.born ts cs K z e sz⟩
def It.seq (t:Nat) {x y:AV} (h:x=y):It E:=.gh ⟨h,.vis t y⟩
def It.beq (K:Nat) {x y:Bx} (h:x=y):It E:=.gh ⟨h,.bis K y⟩
def It.zN (t:Nat) (w:AV):It E:=.gh ⟨trivial,.zN t w⟩
def It.pZ (K:Nat) (w:Bx):It E:=.gh ⟨trivial,.pZ K w⟩
def int_eq {k:IntKind} {b:Int} (h:(a==b)=true):AV.int k a=AV.int k b:=by rw[eq_of_beq h]
def en {k:IntKind} {a b:Int} (h:(a==b)=true):It E:=It.eqv (int_eq (k:=k) h)
def ci {k:IntKind} {b:Int} (h:kn ro E f bs xs (.int k a) gd) (e:(a==b)=true):kn ro E f bs xs (.int k b) gd:=gn.cast h (int_eq e)
end
end
section
def nilAt {J:Type} (xs:List (List J)) (j:Nat):Option Unit:=match xs[j]? with|some []=>some ()|_=>none
def lL (a b:Nat):Option Unit:=if a=b then some () else none
def xK {a b:Nat} {u:Unit} (h:lL a b=some u):a=b:=by
 unfold lL at h;split at h
 ·assumption
 ·cases h
def tE (n:Nat) (hi:Int):bP:=if 0<=hi/\hi.toNat<=n then some hi.toNat else none
def BQ (n:Nat) (lo:Int):bP:=if 0<=lo/\lo.toNat<=n then some lo.toNat else none
def vY (h:tE n hi=some u):hi=(u:Int)/\u<=n:=by
 unfold tE at h;split at h
 ·rename_i h0;cases h;exact ⟨by omega,h0.2⟩
 ·cases h
def JM (h:BQ n lo=some u):lo=(u:Int)/\u<=n:=by
 unfold BQ at h;split at h
 ·rename_i h0;cases h;exact ⟨by omega,h0.2⟩
 ·cases h
def aCu {m:Nat} (h:BQ n lo=some u) (le:n<=m):0+u+(n-u)<=m:=by
 have:=(JM h).2;omega
def Cn {J:Type} {xs:List J} (h:u<=xs.length):(xs.take u).length=u:=by rw[dR];omega
def avC {J:Type} {xs zs:List J} {lo hi:Option Int} (h:cut xs lo hi=some zs):∃l u:Nat,aee (lo.getD 0) (hi.getD (xs.length:Nat)) xs.length l u/\zs=(xs.drop l).take (u-l):=by
 unfold cut at h;split at h
 ·rename_i h0;cases h;obtain ⟨a,b,c,d⟩:=h0;refine ⟨(lo.getD 0).toNat,(hi.map Int.toNat).getD xs.length,⟨by omega,?_,c,d⟩,by rw[tS]⟩
  cases hi with
  |none=>rfl
  |some v=>have:0<=v:=b;show v=((v.toNat:Nat):Int);omega
 ·cases h
def C5 {J:Type} {xs ys zs:List J} (h:G6 xs n ys=some zs):n<=xs.length/\n<=1000000/\ys.length<=1000000/\zs=xs.take n++ys:=by
 unfold G6 at h;split at h
 ·rename_i h0;cases h;exact ⟨h0.1,h0.2.1,h0.2.2,rfl⟩
 ·cases h
def tf {J:Type} {n:Int} {x:J} {zs:List J} (h:rA n x=some zs):n=(n.toNat:Int)/\n.toNat<=1000000/\zs=List.replicate n.toNat x:=by
 unfold rA at h;split at h
 ·rename_i h0;cases h;exact ⟨by omega,by omega,rfl⟩
 ·cases h
def Nt {J:Type} {n:Int} {x:J} {zs:List J} (h:rA n x=some zs):n.toNat=zs.length:=by rw[(tf h).2.2,tR]
section
variable {J:Type} {enc:J->bc} {rows:List J->bA} {E:Env}
def RowsK.take (R:RowsK enc rows) (xs:List J) (u:Nat):(rows xs).take u=rows (xs.take u):=by rw[R.map,R.map,yE]
def RowsK.isE (R:RowsK enc rows) (xs:List J):(rows xs).isEmpty=xs.isEmpty:=by rw[R.map];cases xs<;>rfl
def A3 (h:j<Q.length):Dl (Q.set j r) j f xs=some (Q.set j (gx r f xs)):=by
 unfold Dl;rw[pw h];show some _=_;rw[vD]
def RowsK.asZ (R:RowsK enc rows) {xs:List J} {x:J} (h:xs[j]? =some x):Dl (rows xs) j f vs=some ((rows xs).set j (gx (enc x) f vs)):=by unfold Dl;rw[R.get h];rfl
def RowsK.ato (R:RowsK enc rows) {xs zs:List J} {y:J} (h:setAt xs j y=some zs) (he:r=enc y):(rows xs).set j r=rows zs:=by rw[(Ab h).1,he,R.map,R.map,DP]
def RowsK.lt (R:RowsK enc rows) {xs:List J} {x:J} (h:xs[j]? =some x):j<(rows xs).length:=by rw[R.len];exact (bY.1 h).1
def RowsK.ltS (R:RowsK enc rows) {xs zs:List J} {y:J} (h:setAt xs j y=some zs):j<(rows xs).length:=by rw[R.len];exact (Ab h).2
def Y6 {Q Q':bA} {j f:Nat} {vs:bc} (h:Dl Q j f vs=some Q'):It E:=.op h (.uF Q')
def RowsK.uF (R:RowsK enc rows) {xs zs:List J} {j:Nat} {x y:J} (f:Nat) (vs:bc) (h0:xs[j]? =some x) (h1:setAt xs j y=some zs) (he:gx (enc x) f vs=enc y:=by kernel_rfl):It E:=Y6 (Q:=rows xs) (Q':=rows zs) (j:=j) (f:=f) (vs:=vs) (by rw[R.asZ h0,R.ato h1 he])
def RowsK.hol (R:RowsK enc rows) {xs:List J} {j:Nat} {x:J} (f:Nat) (h0:xs[j]? =some x):It E:=Y6 (R.asZ (f:=f) (vs:= [.undef]) h0)
def RowsK.holF (R:RowsK enc rows) {xs:List J} {j:Nat} {x:J} (f:Nat) (r':bc) (h:xs[j]? =some x) (hr:gx (enc x) f [.undef]=r':=by kernel_rfl):It E:=Y6 (Q:=rows xs) (Q':=(rows xs).set j r') (j:=j) (f:=f) (vs:= [.undef]) (by rw[R.asZ h,hr])
def RowsK.xX (R:RowsK enc rows) {xs:List J} {j:Nat} {x:J} (f:Nat) (r r':bc) (h:xs[j]? =some x) (hr:gx r f [.undef]=r':=by kernel_rfl):It E:=Y6 (Q:=(rows xs).set j r) (Q':=(rows xs).set j r') (j:=j) (f:=f) (vs:= [.undef]) (by rw[A3 (R.lt h),hr])
def RowsK.hrwS (R:RowsK enc rows) {xs:List J} {j:Nat} {x:J} (r r':bc) (h:xs[j]? =some x) (hr:gx r 0 r'=r':=by kernel_rfl):It E:=Y6 (Q:=(rows xs).set j r) (Q':=(rows xs).set j r') (j:=j) (f:=0) (vs:=r') (by rw[A3 (R.lt h),hr])
def RowsK.atS (R:RowsK enc rows) {xs:List J} {x:J} (h:xs[j]? =some x):((rows xs).set j r)[j]? =some r:=pw (R.lt h)
def RowsK.rowS (R:RowsK enc rows) {xs:List J} {j:Nat} {x:J} (r:bc) (h:xs[j]? =some x):It E:=.op (R.atS (r:=r) h) (.row r [])
def RowsK.zi (R:RowsK enc rows) {xs:List J} {j:Nat} {x:J} (fs:br) (r:bc) (h:xs[j]? =some x):It E:=.op (R.atS (r:=r) h) (.row r fs)
def RowsK.cut (R:RowsK enc rows) {xs zs:List J} {lo hi:Option Int} (h:Go.bX.cut xs lo hi=some zs):It E:=.op (P:=CutR (rows xs) (lo.getD 0) (hi.getD (xs.length:Nat)) (rows zs) zs.length) (by
 obtain ⟨l,u,h1,rfl⟩:=avC h;exact ⟨l,u,by rw[R.len];exact h1,by rw[R.map,R.map,yE,D1],R.len _⟩) (.cut 0 0 (rows zs) zs.length)
def RowsK.tE (R:RowsK enc rows) {xs:List J} {n u:Nat} {hi:Int} (h:Go.bX.tE n hi=some u) (le:n<=xs.length):It E:=.op (P:=aee 0 hi n 0 u/\0+n<=(rows xs).length) ⟨⟨rfl,(vY h).1,qK _,(vY h).2⟩,by rw[R.len];omega⟩ (.cut 0 u [] 0)
def RowsK.BQ (R:RowsK enc rows) {xs:List J} {n u:Nat} {lo:Int} (h:Go.bX.BQ n lo=some u) (le:n<=xs.length):It E:=.op (P:=aee lo (n:Int) n u n/\0+n<=(rows xs).length) ⟨⟨(JM h).1,rfl,(JM h).2,dg _⟩,by rw[R.len];omega⟩ (.cut u n [] 0)
def RowsK.appQ (R:RowsK enc rows) {xs ys zs:List J} (h:Go.bX.G6 xs n ys=some zs):V8 false (rows xs) n (rows zs) zs.length (rows ys):=
 ⟨λh=>(by cases h),by rw[R.len];exact (C5 h).1,(C5 h).2.1,by rw[R.len];exact (C5 h).2.2.1,by rw[(C5 h).2.2.2,R.map,R.map,R.map,mB,yE],R.len zs⟩
def RowsK.appB (R:RowsK enc rows) {xs ys zs:List J} {lo m n:Nat} (h:Go.bX.G6 xs n ((ys.drop lo).take m)=some zs) (hm:lo+m<=ys.length):It E:=
 .op (P:=V8 false (rows xs) n (rows zs) zs.length (rows ((ys.drop lo).take m))/\((rows ys).drop lo).take m=rows ((ys.drop lo).take m)/\lo+m<=(rows ys).length) ⟨R.appQ h,by rw[R.map,R.map,yE,D1],by rw[R.len];exact hm⟩ (.app false (rows ((ys.drop lo).take m)) (rows zs) zs.length)
def RowsK.made (R:RowsK enc rows) {n:Int} {x:J} {zs:List J} (h:rA n x=some zs) (sh:dX:= []):It E:=
 .op (P:=MkP n n (enc x) (rows zs) n.toNat) ⟨n.toNat,(tf h).1,(tf h).1,dg _,(tf h).2.1,by rw[(tf h).2.2,R.map,List.map_replicate]⟩ (.mk (enc x) (rows zs) n.toNat sh)
def RowsK.aJP (R:RowsK enc rows) {n:Int} {x:J} {zs:List J} (h:rA n x=some zs) (sh:dX:= []):It E:=
 .op (P:=MkP 0 n (enc x) (rows []) 0) ⟨n.toNat,rfl,(tf h).1,qK _,(tf h).2.1,by rw[R.map];rfl⟩ (.mk (enc x) (rows []) 0 sh)
def It.shr (K:Nat) {Q P:bA} {u:Nat} (h:Q.take u=P):It E:=.gh ⟨h,.shr K u P⟩
def RowsK.Iq (R:RowsK enc rows) {xs ys zs:List J} (h:Go.bX.app xs ys=some zs):It E:=.op (P:=TapP (rows xs) xs.length) ⟨(R.len xs).symm,(yf h).1⟩ .Iq
def RowsK.apS (R:RowsK enc rows) {xs zs:List J} {y:J} (h:Go.bX.app xs [y]=some zs):rows xs++ [r]=(rows zs).set xs.length r:=by
 rw[(yf h).2.2,R.map,R.map,mB,xw _ _ (by rw[nS];exact dg _),nS,nT]
 rfl
def RowsK.apL (R:RowsK enc rows) {xs zs:List J} {y:J} (h:Go.bX.app xs [y]=some zs):xs.length+1=zs.length:=by
 rw[(yf h).2.2,gO];rfl
def RowsK.tfr (R:RowsK enc rows) (b:Bool) (K:Nat) (xs:List J):It E:=.gh ⟨R.len xs,.fX K (aQ b 2 0) xs.length⟩
def RowsK.frzN (R:RowsK enc rows) {n:Nat} (b:Bool) (K:Nat) (xs:List J) (h:n=xs.length):It E:=.gh ⟨(R.len xs).trans h.symm,.fX K (aQ b 2 0) n⟩
def RowsK.noDR (R:RowsK enc rows) (h:∀x,tj (enc x)=true) (xs:List J):avY (rows xs):=λr hr=>by
 rw[R.map] at hr;obtain ⟨x,_,rfl⟩:=cO.1 hr;exact h x
def It.gi (x:It E):GI:=match x with| .gh g=>g|_=>⟨trivial,.jq 0 0⟩
def It.Aq {f:Nat} {bs gd:cL} {ys:bc} {y:AV} {P:Prop} (h:gn E f bs ys y gd) (gs:List (It E)) (hd:P) (ps rs:gJ) (fz:List (It E):= []):It E:=.Qp h (gs.map It.gi) hd ps rs (fz.map It.gi)
def akD (K K2:Nat) {j f e2 s2 n:Nat} {x:Bool} {Q Q2 Q':bA} (h:avX Q j f x e2 s2 n Q2 Q'):It E:=.gh ⟨h,.opn K K2 j f e2 s2 n Q2 Q'⟩
def clsO (K K2:Nat) {j f n:Nat} {y:AV} {Q Q2 Q':bA} (h:Q2.length=n/\V3 Q j f y Q'):It E:=.gh ⟨h,.cls K K2 j f n Q'⟩
def cldO (K:Nat) {j f:Nat} (y:AV) {Q Q':bA} (h:V3 Q j f y Q'):It E:=.gh ⟨h,.cld K j f y Q'⟩
variable {O:Type} {lX:List O->bA} {N2:O->bc}
def RowsK.nE (R:RowsK enc rows) (N:RowsK N2 lX) {xs:List J} {j:Nat} {x:J} (K K2 f:Nat) (b:Bool) (e' s:Nat) (y:List O) (h:xs[j]? =some x) (r':bc) (hx:(enc x)[f]? =some (wi b e' s y.length (lX y)):=by kernel_rfl) (hr:gx (enc x) f [.undef]=r':=by kernel_rfl):It E:=
 akD (Q:=rows xs) (Q2:=lX y) (Q':=(rows xs).set j r') K K2 ⟨enc x,R.get h,hx,by rw[hr]⟩
def RowsK.uZ (R:RowsK enc rows) (N:RowsK N2 lX) {xs:List J} {j:Nat} {x:J} {r:bc} (K K2 f:Nat) (b:Bool) (e' s:Nat) (y:List O) (h:xs[j]? =some x) (r':bc) (hx:r[f]? =some (wi b e' s y.length (lX y)):=by kernel_rfl) (hr:gx r f [.undef]=r':=by kernel_rfl):It E:=
 akD (Q:=(rows xs).set j r) (Q2:=lX y) (Q':=(rows xs).set j r') K K2 ⟨r,R.atS h,hx,by rw[hr,vD]⟩
def RowsK.jv (R:RowsK enc rows) (N:RowsK N2 lX) {xs zs:List J} {j:Nat} {z:J} {r:bc} (K K2 f:Nat) (b:Bool) (e' s:Nat) (y:List O) (h:setAt xs j z=some zs) (r':bc) (hr:gx r f [wi b e' s y.length (lX y)]=r':=by kernel_rfl):It E:=
 clsO (Q:=(rows xs).set j r) (Q2:=lX y) (Q':=(rows xs).set j r') (y:=wi b e' s y.length (lX y)) K K2 ⟨N.len y,by show Dl _ _ _ _=_;rw[A3 (R.ltS h),hr]⟩
def RowsK.gT (R:RowsK enc rows) (N:RowsK N2 lX) {xs zs:List J} {j:Nat} {z:J} {r:bc} (K K2 f:Nat) (b:Bool) (e' s:Nat) (y:List O) (h:setAt xs j z=some zs) (hr:gx r f [wi b e' s y.length (lX y)]=enc z:=by kernel_rfl):It E:=
 clsO (Q:=(rows xs).set j r) (Q2:=lX y) (Q':=rows zs) (y:=wi b e' s y.length (lX y)) K K2 ⟨N.len y,by show Dl _ _ _ _=_;rw[A3 (R.ltS h),R.ato h hr]⟩
def RowsK.clo (R:RowsK enc rows) {xs zs:List J} {j:Nat} {x y:J} (K:Nat) (f:Nat) (q:AV) (u:AV) (h0:xs[j]? =some x) (h1:setAt xs j y=some zs) (he:gx (gx (enc x) f [u]) f [q]=enc y:=by kernel_rfl):It E:=
 cldO (Q:=(rows xs).set j (gx (enc x) f [u])) (Q':=rows zs) K q (by show Dl _ _ _ _=_;rw[A3 (R.lt h0),R.ato h1 he])
end
def gone (l:dX) (g:Nat) (Q:bA):bA:=(Q.take g).map (F9 l)++Q.drop g
def aFp:Q=gone l 0 Q:=rfl
def abX {g:Nat} (h:Q[g]? =some r):(gone l g Q)[g]? =some r:=by
 have cY:=(bY.1 h).1;unfold gone;rw[nf (by rw[nS,dR];omega),nS,dR,fa,fB (by omega),nT,ng]
 exact h
def auT {g:Nat} (h:Q[g]? =some r):(gone l g Q).set g (F9 l r)=gone l (g+1) Q:=by
 have cY:=(bY.1 h).1;have hr:Q[g]=r:=(bY.1 h).2;have hl:((Q.take g).map (F9 l)).length=g:=by rw[nS,dR];omega
 unfold gone;rw[xw _ _ (by omega),hl,nT,qJ cY,vC,dI cY,hr]
 simp
section
variable {J O:Type} {enc:J->bc} {rows:List J->bA} {lX:List O->bA} {N2:O->bc} {E:Env}
variable {g:Nat} {r0:bc}
def abY {u:Unit} (hg:lL j g=some u) (h:Q[j]? =some r0):((gone l g Q).set j r)[j]? =some r:=by
 have:=xK hg;subst this;exact pw (bY.1 (abX h)).1
def RowsK.aDl (R:RowsK enc rows) (N:RowsK N2 lX) {xs:List J} {j g:Nat} {x:J} {u:Unit} (l:dX) (hg:lL j g=some u) (K K2 f:Nat) (b:Bool) (e' s:Nat) (y:List O) (h:xs[j]? =some x) (r':bc) (hx:(enc x)[f]? =some (wi b e' s y.length (lX y)):=by kernel_rfl) (hr:gx (enc x) f [.undef]=r':=by kernel_rfl):It E:=
 akD (Q:=gone l g (rows xs)) (Q2:=lX y) (Q':=(gone l g (rows xs)).set j r') K K2 ⟨enc x,by have:=xK hg;subst this;exact abX (R.get h),hx,by rw[hr]⟩
def RowsK.aoi (R:RowsK enc rows) (N:RowsK N2 lX) {xs:List J} {j g:Nat} {x:J} {u:Unit} (l:dX) (hg:lL j g=some u) (r:bc) (K K2 f:Nat) (b:Bool) (e' s:Nat) (y:List O) (h:xs[j]? =some x) (r':bc) (hx:r[f]? =some (wi b e' s y.length (lX y)):=by kernel_rfl) (hr:gx r f [.undef]=r':=by kernel_rfl):It E:=
 akD (Q:=(gone l g (rows xs)).set j r) (Q2:=lX y) (Q':=(gone l g (rows xs)).set j r') K K2 ⟨r,abY hg (R.get h),hx,by rw[hr,vD]⟩
def RowsK.aJF (R:RowsK enc rows) {xs:List J} {j g:Nat} {x:J} {u:Unit} (l:dX) (hg:lL j g=some u) (fs:br) (r:bc) (h:xs[j]? =some x):It E:=.op (abY (l:=l) (r:=r) hg (R.get h)) (.row r fs)
def RowsK.alq (R:RowsK enc rows) {xs zs:List J} {z:J} {u:Unit} (hg:lL j g=some u) (h:setAt xs j z=some zs) (hr:F9 l (enc z)=r:=by kernel_rfl):(gone l g (rows xs)).set j r=gone l (g+1) (rows zs):=by
 have:=xK hg;subst this;obtain ⟨e,cY⟩:=Ab h;have hz:zs[j]? =some z:=by rw[e,pw cY]
 rw[<-auT (R.get hz),hr];have e2:gone l j (rows zs)=(gone l j (rows xs)).set j (enc z):=by
  have hl:(rows xs).length=xs.length:=R.len xs;unfold gone;rw[e,R.map,DP,<-R.map,List.take_set_of_le (dg _)];rw[xw _ _ (by rw[nS,dR];omega),nS,dR,fB (by omega),nT]
  rw[List.drop_set,aL (by omega),nT]
 rw[e2,vD]
end
def mG {O:Type} (m:List (ByteArray×O)) (k:ByteArray) (d:O):O:=match m with| []=>d|p::m=>if k=p.1 then p.2 else mG m k d
def nk {O:Type} (m:List (ByteArray×O)) (k:ByteArray) (v:O):List (ByteArray×O):=match m with| []=> [(k,v)]|p::m=>if k=p.1 then (k,v)::m else p::nk m k v
def gP {O:Type} (f:O->AV) (m:List (ByteArray×O)):List (AV×AV):=m.map λp=>(.str p.1,f p.2)
def WB {O:Type} {f:O->AV} {k:ByteArray} {d:O}:∀m:List (ByteArray×O),∃r,qE (.str k) (gP f m)=some r/\P8 false (some (f d)) r=some (f (mG m k d))
 | []=>⟨none,rfl,rfl⟩
 |p::m=>by
  obtain ⟨r,h1,h2⟩:=WB (f:=f) (k:=k) (d:=d) m;have step:qE (.str k) (gP f (p::m))=(match some (decide (k=p.1)) with
   |some true=>some (some (0,f p.2))
   |some false=>(match qE (.str k) (gP f m) with|some (some q)=>some (some (q.1+1,q.2))|r=>r)
   |none=>none):=rfl
  by_cases hk:k=p.1
  ·refine ⟨some (0,f p.2),by rw[step];simp[hk],?_⟩
   show some (f p.2)=some (f (mG (p::m) k d));unfold mG;rw[aH hk]
  ·have hg:mG (p::m) k d=mG m k d:=by rw[mG,aL hk]
   rw[hg];cases r with
   |none=>exact ⟨none,by rw[step];simp[hk,h1],h2⟩
   |some q=>exact ⟨some (q.1+1,q.2),by rw[step];simp[hk,h1],h2⟩
def JE {O:Type} {f:O->AV} {k:ByteArray} {v:O}:∀m:List (ByteArray×O),∃r,qE (.str k) (gP f m)=some r/\YY (gP f m) (.str k) (f v) r=gP f (nk m k v)
 | []=>⟨none,rfl,rfl⟩
 |p::m=>by
  obtain ⟨r,h1,h2⟩:=JE (f:=f) (k:=k) (v:=v) m;have step:qE (.str k) (gP f (p::m))=(match some (decide (k=p.1)) with
   |some true=>some (some (0,f p.2))
   |some false=>(match qE (.str k) (gP f m) with|some (some q)=>some (some (q.1+1,q.2))|r=>r)
   |none=>none):=rfl
  by_cases hk:k=p.1
  ·refine ⟨some (0,f p.2),by rw[step];simp[hk],?_⟩
   unfold nk;rw[aH hk];rfl
  ·have hg:nk (p::m) k v=p::nk m k v:=by rw[nk,aL hk]
   rw[hg];have hc:gP f (p::nk m k v)=(.str p.1,f p.2)::gP f (nk m k v):=rfl;have Jr:gP f (p::m)=(.str p.1,f p.2)::gP f m:=rfl;cases r with
   |none=>exact ⟨none,by rw[step];simp[hk,h1],by rw[hc,<-h2,Jr];rfl⟩
   |some q=>exact ⟨some (q.1+1,q.2),by rw[step];simp[hk,h1],by rw[hc,<-h2,Jr];rfl⟩
def An {k:ByteArray} {m:List (ByteArray×Bool)} (h:mG m k d=b):∃r,qE (.str k) (gP AV.bool m)=some r/\P8 false (some (.bool d)) r=some (.bool b):=h ▸ WB m
def It.lkp {E:Env} {es:List (AV×AV)} {k x z:AV} (ok:Bool) (h:∃f,qE k es=some f/\P8 ok (some z) f=some x):It E:=.op h (.lkp x [])
def It.lT {E:Env} {es CO:List (AV×AV)} {k x:AV} (h:∃f,qE k es=some f/\YY es k x f=CO):It E:=.op h (.lkp .undef CO)
def It.nxt {E:Env} {b:ByteArray} {pos:Nat} (h:pos<b.size):It E:=.op h (.val 1)
def It.fin {E:Env} {b:ByteArray} {pos:Nat} (h:¬pos<b.size):It E:=.op h (.val 0)
def It.fX {E:Env} {Q:bA} {n:Nat} (K:Nat) (h:Q.length=n):It E:=.gh ⟨h,.fX K 0 n⟩
def cd {E:Env} {sz:Nat} {gd:cL} (h:gn E f bs xs (.ms K sz 0 n) gd) (hq:Q.length=n) (hl:lk K gd=some (.rows z e sz Q):=by kernel_rfl) (hb:Ve K sz gd= []:=by kernel_rfl):
  gn E f bs xs (zw 0 n (.rows z e sz Q) sz 0) (LS.acb ⟨[],gd⟩ K 0 n (.rows z e sz Q)).bs:=.mk λr fc has=>by
 obtain ⟨F',g',φ',c',v,H',nx',h1,h2,h3,h4,h5,h6,h7,h8,_⟩:=h.go r fc has;have r0:=h7.put (some 0) λ_=>h6
 have kk:Nat.beq K K=true:=(beq_iff _ _).2 rfl;have ss:Nat.beq sz sz=true:=(beq_iff _ _).2 rfl;have ho:iF (aca ((⟨[],gd⟩:LS).put (some 0) (.ms K sz 0 n)) K n (.rows z e sz Q) λP=>⟨P,True,trivial⟩):=by
  refine ⟨hq,?_⟩;show iF ((((aQ (Nat.beq K K&&(Nat.beq sz sz&&Nat.beq 0 0)) [n] [])++ [])++Ve K sz gd).map _);rw[hb,kk,ss];exact ⟨hq,trivial⟩
 obtain ⟨F2,c2,a1,_,r2⟩:=r0.fX (m:=0) (λ_=>rfl) hl ho
 have e0:GN K (zw 0 n (.rows z e sz Q)) (GM (.rows z e sz Q)) (.ms K sz 0 n)=zw 0 n (.rows z e sz Q) sz 0:=by
  show aQ (Nat.beq K K) _ _=_;rw[kk]
 have cZ:zw 0 n (.rows z e sz Q) sz 0≠ .undef:=by
  show aQ (Nat.beq sz sz&&Nat.beq 0 0) _ _≠_;rw[ss];exact λh=>by cases h
 obtain ⟨v',v1,v2⟩:=r2.tm 0 (GN K (zw 0 n (.rows z e sz Q)) (GM (.rows z e sz Q)) (.ms K sz 0 n)) (show lk 0 [((0:Nat),_)]=some _ from by rw[dz,aH rfl]) (by rw[e0];exact cZ)
 obtain rfl:v=v':=by simpa[jk] using v1
 rw[e0] at v2;exact ⟨F2,g',φ',c2,v,H',nx',h1,h2,h3,h4.trans a1,h5,v2,{r2 with tm:=λt x hx=>(by cases hx)},h8,λh=>by cases h⟩
def gn.res {E:Env} {gd:cL} {y:AV} (w:AV) (h:kn ro E f bs xs y gd):kn ro E f bs xs (cv w y) gd:=.mk λr fc has=>by
 obtain ⟨F',g',φ',c',v,H',nx',h1,h2,h3,h4,h5,h6,h7,h8⟩:=h.go r fc has;exact ⟨F',g',φ',c',v,H',nx',h1,h2,h3,h4,h5,CS h6,h7,h8⟩
end
section
variable {F F':Hf} {g g':Gb} {Y:Nat->Ow} {c:Nat->bP} {s s':LS} {T:Tf} {H:Hf} {E:Env}
variable {B:Nat} {e2:TypeId} {Iu:aY} {V:bA} {y:AV}
def Gm {c nx:Nat} (hP:Au E k c) {lS:dQ} (ho:qA E c H nx aa=some (v,lS)):oC E false (.fn (.func k) [] []) aa H nx v (gz H lS) (nx+1):=λm g w u us hE hr eV hu jL=>by
 cases hu with
 | @fn _ first eG _ _ pO qZ=>
 have qD:j8 g (first.toList++us++eG.toList) ([]++aa++ []):=(pO.append jL).append qZ
 rw[jW,tN] at qD;have po:first++us.toArray++eG=(first.toList++us++eG.toList).toArray:=by apply uD;simp
 obtain ⟨qt,P5⟩:=Ws hE hP hr (eV nx (dg _)) qD ho m;refine ⟨{target:=.fn (.func k) eG,args:=first++us.toArray},rfl,.inl ⟨k,first++us.toArray++eG,GL qt _ w,?_⟩⟩
 rw[po];refine CallsIn.mono P5 ?_;rintro e w' ⟨r,g',rfl,hp⟩;exact ⟨r,rfl,g',hp.val,hp.hr,hp.fr,λx hx=>hp.ro x (by omega),λx hx=>by rw[hp.ro x (by omega)];exact eV x (by omega)⟩
def Gr {s:Nat} (h:VA F g v (.ms K s 0 n)) (hn:0<n):(g K).b=true/\v= .sl (g K).n 0 n (g K).c:=by
 cases h with
 |rn _ hb=>omega
 |ms _ _ _ hb=>exact ⟨hb,by rw[lV];cases (g K).c<;>rfl⟩
 |xc _ _ hl=>omega
def Vh {s:Nat} (hb:(g K).b=true):VA F g (.sl (g K).n 0 n (g K).c) (.ms K s 0 n):=by
 have:=VA.ms (F:=F) (g:=g) (K:=K) s 0 n hb;rw[lV,show F4 (g K).c 0=(g K).c from by cases (g K).c<;>rfl] at this
 exact this
def TR.cut {s:Nat}:∀{l vs Q L} (n:Nat),TR F l vs Q L->(∀r∈Q,r.length=s)->∃A B,L=A++B/\TR F l (vs.take (n*s)) (Q.take n) A/\TR F l (vs.drop (n*s)) (Q.drop n) B
 |_,_,_,L,0,q,_=>⟨[],L,rfl,by simpa using .nil,by simpa using q⟩
 |_,_,_,_,n+1,.nil,_=>⟨[],[],rfl,by simpa using .nil,by simpa using .nil⟩
 |l,_,_,_,n+1,.cons (vs:=vs) (a:=a) q t,hu=>by
  obtain ⟨A,B,h1,h2,h3⟩:=t.cut n λr hr=>hu r (fO _ hr)
  subst h1;have hl:vs.length=s:=by rw[q.length];exact hu _ jt
  have e:(n+1)*s=vs.length+n*s:=by rw[gD,pt,hl];omega
  refine ⟨a++A,B,(lu ..).symm,?_,?_⟩
  ·rw[e,D0,S0];exact .cons q h2
  ·rw[e,agy,List.drop_succ_cons];exact h3
def rf {a b:Nat} (h:a<=b):Nat.ble a b=true:=(bV _ _).2 h
def aCt {id sz:Nat} {cp:Cp} (hf:H id=some (SO.cells e svs)) (hi:i<j) (hj:j<=n) (hl:n*sz<=svs.length):
  acv sz H [.sl id 0 n cp,.int .i64 (.lit (i:Int)),.int .i64 (.lit (j:Int))]=some (.sl id 0 (n-(j-i)) cp,[(id,some (SO.cells e (zx (i*sz) (j*sz) (n*sz) svs)))]):=by
 show rP (some i) (some j) (nq (H id)) (λi j p=>aQ (Nat.ble (Nat.succ i) j&&(Nat.ble j n&&Nat.ble (Nat.add 0 (Nat.mul n sz)) p.2.length)) (some (SV.sl id 0 (Nat.sub n (Nat.sub j i)) cp,[(id,some (SO.cells p.1 (zx (Nat.add 0 (Nat.mul i sz)) (Nat.add 0 (Nat.mul j sz)) (Nat.add 0 (Nat.mul n sz)) p.2)))])) none)=_
 rw[hf];show aQ (Nat.ble (Nat.succ i) j&&(Nat.ble j n&&Nat.ble (Nat.add 0 (n*sz)) svs.length)) _ none=_;rw[rf hi,rf hj,show Nat.add 0 (n*sz)=n*sz from cA _,rf hl];simp only[Nat.add_eq,Nat.mul_eq,Nat.sub_eq,cA];rfl
def arA {C:Nat} (h1:A<=B) (h2:B<=C) (h3:C<=svs.length):(zx A B C svs).take (A+(C-B))=(svs.take C).take A++(svs.take C).drop B:=by
 have e0:zx A B C svs=svs.take A++((svs.drop B).take (C-B)++(List.replicate (B-A) SV.undef++svs.drop C)):=rfl;have e1:(svs.take A).length=A:=by simp;omega
 have e2:((svs.drop B).take (C-B)).length=C-B:=by simp;omega
 have e3:(svs.take C).take A=svs.take A:=by rw[oD,fB (by omega)]
 have e4:(svs.take C).drop B=(svs.drop B).take (C-B):=by rw[tS]
 rw[e0,e3,e4,<-lu,DZ (by rw[gO,e1,e2])]
def Qo {s n' len:Nat} {c:Cp} (hc:yy e s n len c) (h:n'<=n):yy e s n' len c:=by
 cases c with
 |k m=>exact ⟨by have:=hc.1;omega,hc.2⟩
 |u e'=>exact ⟨hc.1,by have:=kK s h;have:=hc.2;omega⟩
def Rel.wr0 {b b':Bx} {id nx:Nat} (r:Rel F g Y c ⟨[],[(0,b)]⟩ noT H) (fc:∀x,nx<=x->H x=none) (iN:H id≠none) (hc:c id=some 0) (hb:eH F g 0 b' L') (nd:(L'.map (·.1)).Nodup) (hL:∀p∈L',p=(id,o')\/p.1≠id/\H p.1=some p.2/\c p.1=some 0):
  ∃φ' c',(∀x,nx+1<=x->jo H (id,some o') x=none)/\Rel F g φ' c' ⟨[],[(0,b')]⟩ noT (jo H (id,some o'))/\∀x,x<nx->jo H (id,some o') x≠none->H x≠none:=by
 have hn:∀x,x≠id->jo H (id,some o') x=H x:=λx hx=>aL hx
 have lt:id<nx:=xC λh=>iN (fc _ h)
 obtain ⟨c',h1,_⟩:=r.chg (K:=0) (b':=b') (L':=L') (H':=jo H (id,some o')) hb nd (λp hp=>(hL p hp).elim (λe=>e ▸ ⟨aH rfl,.inl hc⟩) λh=>⟨(hn _ h.1).trans h.2.1,.inl h.2.2⟩) (λi hi=>.inl (nA λh=>hi (hn i λe=>h (e ▸ hc)))) (.inl rfl)
 refine ⟨_,c',λx hx=>(hn x (by omega)).trans (fc x (by omega)),h1.sub (λt x h=>(by cases h)) λk b h=> ?_,λx hx cZ=> ?_⟩
 ·show lk k [(0,b'),(0,_)]=_;rw[dz] at h ⊢;split
  ·rename_i e;rw[aH e] at h;exact h
  ·rename_i e;rw[aL e] at h;cases h
 ·by_cases e:x=id
  ·exact e ▸ iN
  ·rwa[hn x e] at cZ
def gn.del {c sz:Nat} {ie:TI} (hP:Au E k c) (h9:Nat.ble 1048576 c=false) (h0:Nat.div c 2=e) (h1:Nat.beq (Nat.mod c 2) 0=true) (hie:E.ty.get e=some ie) (hs:ie.size=sz) (hn:Q.length=n) (hi:i<j) (hj:j<=n):
  gn E k [(0,.cy false e sz l Q [])] [.ms 0 sz 0 n,.int .i64 (i:Int),.int .i64 (j:Int)] (.ms 0 sz 0 (n-(j-i))) [(0,.cy false e sz l (Q.take i++Q.drop j) [])]:=.mk λ{F g Y c0 H nx aa} r fc has=>by
 cases has with|cons q1 t1=>
 cases t1 with|cons q2 t2=>
 cases t2 with|cons q3 t3=>
 cases t3;obtain ⟨hb,rfl⟩:=Gr q1 (by omega)
 cases q2;cases q3;have hlk:lk 0 [((0:Nat),Bx.cy false e sz l Q [])]=some (.cy false e sz l Q []):=by rw[dz,aH rfl]
 rcases r.cy hlk with ⟨_,_,mU,_⟩|⟨_,svs,L,hφ,hH,_,hu,jm,q,_⟩
 ·rw[hb] at mU;cases mU
 obtain ⟨_,nd,own⟩:=r.bx 0 _ hlk;rw[hφ] at nd own;subst hn;have hl:=oA jm;have hA:i*sz<=j*sz:=kK _ (by omega)
 have hB:j*sz<=Q.length*sz:=kK _ hj;have ho:qA E c H nx [.sl (g 0).n 0 Q.length (g 0).c,.int .i64 (.lit (i:Int)),.int .i64 (.lit (j:Int))]=some (.sl (g 0).n 0 (Q.length-(j-i)) (g 0).c,[((g 0).n,some (SO.cells e (zx (i*sz) (j*sz) (Q.length*sz) svs)))]):=by
  unfold qA;rw[h9];show az (E.ty.get (Nat.div c 2)) _=_;rw[h0,hie];show aQ (Nat.beq (Nat.mod c 2) 0) (acv ie.size H _) _=_;rw[h1,hs];exact aCt hH hi hj hl
 obtain ⟨A,B,e1,a1,a2⟩:=q.cut j hu;obtain ⟨A1,A2,rfl,b1,b2⟩:=a1.cut i λr hr=>hu r (qG hr)
 rw[oD,fB hA,show (Q.take j).take i=Q.take i by rw[oD,fB (by omega)]] at b1
 have Dy:(A1++B).Sublist L:=by
  rw[e1];exact List.Sublist.append (List.sublist_append_left _ _) (.refl _)
 have r1:(Q.take i++Q.drop j).length=Q.length-(j-i):=by simp;omega
 have r3:(Q.length-(j-i))*sz=i*sz+(Q.length*sz-j*sz):=by rw[show Q.length-(j-i)=i+(Q.length-j) by omega,gD,yD]
 have iN:=(own ((g 0).n,_) jt);have key:=r.wr0 (b':=.cy false e sz l (Q.take i++Q.drop j) []) (id:=(g 0).n) (o':=SO.cells e (zx (i*sz) (j*sz) (Q.length*sz) svs)) (L':=((g 0).n,SO.cells e (zx (i*sz) (j*sz) (Q.length*sz) svs))::(A1++B)) fc (by rw[hH];simp) iN.2 (.cy hb (λh=>by cases h) (λr hr=> ?_) ?_ ?_ λp hp=>by cases hp) ?_ λp hp=> ?_
 ·obtain ⟨φ',c',k1,k2,k3⟩:=key;exact ⟨F,g,φ',c',_,_,nx+1,Gm hP ho,xB _,k1,.refl _,λ_ _=>rfl,Vh hb,k2,k3,λh=>by cases h⟩
 ·rcases eR.1 hr with hr|hr
  ·exact hu r (qG hr)
  ·exact hu r (oE hr)
 ·rw[r1,avA hA hB hl];exact Qo jm (by omega)
 ·rw[r1,r3,arA hA hB hl];exact b1.append a2
 ·exact ((Dy.cons_cons _).map _).nodup nd
 ·rcases cH.1 hp with e|hp
  ·exact .inl e
  ·have hp:=Dy.subset hp;exact .inr ⟨λe=>(px.1 nd).1 (cO.2 ⟨p,hp,e⟩),own p (fO _ hp)⟩
def aCl {id CH q sz new:Nat} {c c2:Cp} (hf:H id=some (SO.cells e svs)) (hf2:H CH=some (SO.cells e2 Iu)) (hi:i<=n) (hq:0<q) (xh:n<=1000000) (hq6:q<=1000000) (cZ:id≠CH) (hl:n*sz<=svs.length) (EK:q*sz<=Iu.length) (hc:alW 0 svs.length sz c=true):
  abv e sz H new [.sl id 0 n c,.int .i64 (.lit (i:Int)),.sl CH 0 q c2]=some (.sl new 0 (n+q) (.u e),[(id,none),(new,some (SO.cells e (zu (svs.take (n*sz)) (i*sz) (Iu.take (q*sz)))))]):=by
 show rP (some i) (nq (H id)) (nq (H CH)) (λi p p2=>aQ (Nat.ble i n&&(Nat.ble 1 q&&(Nat.ble n 1000000&&(Nat.ble q 1000000&&(!Nat.beq id CH&&(Nat.beq p.1 e&&(Nat.ble (Nat.add 0 (Nat.mul n sz)) p.2.length&&(Nat.ble (Nat.add 0 (Nat.mul q sz)) p2.2.length&&alW 0 p.2.length sz c)))))))) (some (SV.sl new 0 (Nat.add n q) (.u e),[(id,none),(new,some (SO.cells e (zu ((p.2.drop 0).take (Nat.mul n sz)) (Nat.mul i sz) ((p2.2.drop 0).take (Nat.mul q sz)))))])) none)=_
 rw[hf,hf2];show aQ (Nat.ble i n&&(Nat.ble 1 q&&(Nat.ble n 1000000&&(Nat.ble q 1000000&&(!Nat.beq id CH&&(Nat.beq e e&&(Nat.ble (Nat.add 0 (Nat.mul n sz)) svs.length&&(Nat.ble (Nat.add 0 (Nat.mul q sz)) Iu.length&&alW 0 svs.length sz c)))))))) _ none=_;rw[show Nat.add 0 (Nat.mul n sz)=n*sz from cA _,show Nat.add 0 (Nat.mul q sz)=q*sz from cA _];rw[rf hi,rf hq,rf xh,rf hq6,rf hl,rf EK,hc,(beq_iff _ _).2 rfl,show Nat.beq id CH=false from Bool.eq_false_iff.2 λh=>cZ ((beq_iff _ _).1 h)]
 rfl
def gn.ins {c sz q:Nat} {ie:TI} (hP:Au E k c) (h9:Nat.ble 1048576 c=false) (h0:Nat.div c 2=e) (h1:Nat.beq (Nat.mod c 2) 0=false) (hie:E.ty.get e=some ie) (hs:ie.size=sz) (hn:Q.length=n) (hq:V.length=q) (hi:i<=n) (hn0:0<n) (hq0:0<q) (xh:n<=1000000) (hq6:q<=1000000):
  gn E k [(2,.rows z e2 sz V),(4294967296,.rows false e sz Q)] [.ms 4294967296 sz 0 n,.int .i64 (i:Int),.ms 2 sz 0 q] (.ms 4294967296 sz 0 (n+q)) [(4294967296,.rows false e sz (Q.take i++V++Q.drop i)),(2,.rows z e2 sz V)]:=.mk λ{F g Y c0 H nx aa} r fc has=>by
 generalize hK:(4294967296:Nat)=K at*;have hK2:K≠2:=by rw[<-hK];decide
 have hpn:pnL (uK [(2,Bx.rows z e2 sz V),(K,Bx.rows false e sz Q)]) K=false:=by rw[<-hK];rfl
 cases has with|cons q1 t1=>
 cases t1 with|cons q2 t2=>
 cases t2 with|cons q3 t3=>
 cases t3;obtain ⟨hb,rfl⟩:=Gr q1 hn0;obtain ⟨EO,rfl⟩:=Gr q3 hq0;cases q2;have hlk:lk K [((2:Nat),Bx.rows z e2 sz V),(K,Bx.rows false e sz Q)]=some (.rows false e sz Q):=by rw[dz,aL hK2,dz,aH rfl]
 have hlk2:lk 2 [((2:Nat),Bx.rows z e2 sz V),(K,Bx.rows false e sz Q)]=some (.rows z e2 sz V):=by rw[dz,aH rfl]
 rcases r.cy hlk with ⟨_,_,mU,_⟩|⟨_,svs,L,hφ,hH,_,hu,jm,w1,_⟩
 ·rw[hb] at mU;cases mU
 rcases r.cy hlk2 with ⟨_,_,mU,_⟩|⟨_,Iu,L2,hφ2,hH2,_,hu2,aye,w2,_⟩
 ·rw[EO] at mU;cases mU
 have own:=(r.bx K _ hlk).2.2;have aaO:=(r.bx 2 _ hlk2).2.2;rw[hφ] at own;rw[hφ2] at aaO;have cK:=(own (_,_) jt).2;have c2:=(aaO (_,_) jt).2;subst hn;subst hq;have hl:=oA jm;have EK:=oA aye;have cZ:(g K).n≠(g 2).n:=λe=>by
  have cK:c0 (g K).n=some K:=cK;have c2:c0 (g 2).n=some 2:=c2;rw[e,c2] at cK;exact hK2 (kV cK).symm
 have iw:i*sz<=Q.length*sz:=kK _ hi;have ho:qA E c H nx [.sl (g K).n 0 Q.length (g K).c,.int .i64 (.lit (i:Int)),.sl (g 2).n 0 V.length (g 2).c]=some (.sl nx 0 (Q.length+V.length) (.u e),[((g K).n,none),(nx,some (SO.cells e (zu (svs.take (Q.length*sz)) (i*sz) (Iu.take (V.length*sz)))))]):=by
  unfold qA;rw[h9];show az (E.ty.get (Nat.div c 2)) _=_;rw[h0,hie];show aQ (Nat.beq (Nat.mod c 2) 0) _ (abv e ie.size H nx _)=_;rw[h1,hs];refine aCl hH hH2 hi hq0 xh hq6 cZ hl EK ?_;cases hκ:(g K).c with
  |k m=>
   rw[hκ] at jm;show Nat.ble (Nat.add 0 (Nat.mul m sz)) svs.length=true;rw[jm.2];exact rf (by show 0+m*sz<=_;omega)
  |u e'=>rfl
 have eV:=fc nx (dg _);generalize hX:zu (svs.take (Q.length*sz)) (i*sz) (Iu.take (V.length*sz))=X at ho;have hXe:X=((svs.take (Q.length*sz)).take (i*sz))++(Iu.take (V.length*sz)++(svs.take (Q.length*sz)).drop (i*sz)):=hX.symm;let H':Hf:=jo (jo H ((g K).n,none)) (nx,some (SO.cells e X));have GH:∀x,x≠(g K).n->x≠nx->H' x=H x:=λx h1 h2=>by
  show (if x=nx then _ else if x=(g K).n then _ else H x)=_
  rw[aL h2,aL h1]
 have Bw:(Q.take i++V++Q.drop i).length=Q.length+V.length:=by simp;omega
 have hru:∀r∈Q.take i++V++Q.drop i,r.length=sz:=λr hr=>by
  rcases eR.1 hr with hr|hr
  ·rcases eR.1 hr with hr|hr
   ·exact hu r (qG hr)
   ·exact hu2 r hr
  ·exact hu r (oE hr)
 have hXl:X.length=(Q.length+V.length)*sz:=by
  rw[hXe];simp only[gO,dR,iX,gD];rw[fB hl,fB EK,fB iw];omega
 have hXv:dA F lA X (Q.take i++V++Q.drop i).flatten:=by
  rw[hXe,List.flatten_append,List.flatten_append,lu,JC hu,CN hu];exact (w1.dat.take _).append (w2.dat.append (w1.dat.drop _))
 let g':Gb:=lT g K ⟨nx,.u e,true⟩;have gK:g' K=⟨nx,.u e,true⟩:=aH rfl;obtain ⟨c',k1,_⟩:=r.chg (K:=K) (g':=g') (b':=.rows false e sz (Q.take i++V++Q.drop i)) (L':= [(nx,.cells e X)]) (H':=H') (by
   have:=eH.cy (F:=F) (g:=g') (K:=K) (z:=false) (e:=e) (s:=sz) (l:= []) (Q:=Q.take i++V++Q.drop i) (o:= []) (svs:=X) (by rw[gK]) (λh=>by cases h) hru (by rw[gK,Bw,hXl];exact ⟨rfl,dg _⟩) (.uI hru (by rw[Bw,<-hXl,xx];exact hXv)) λp hp=>by cases hp
   rwa[gK] at this) (by simp) (λp hp=>by rw[ez.1 hp];exact ⟨aH rfl,.inr eV⟩)
  (λx hx=>by
   by_cases h1:x=(g K).n
   ·exact .inl (h1 ▸ cK)
   ·by_cases h2:x=nx
    ·exact .inr (h2 ▸ eV)
    ·exact absurd (GH x h1 h2) hx)
  (.inr ⟨⟨λt x h=>(by cases h),λk b hk h=>by
   rw[dz] at h;split at h
   ·cases h;exact λhm=>by cases hm
   ·rw[dz] at h;split at h
    ·rename_i e;exact absurd e hk
    ·cases h⟩,λk hk=>aL hk⟩)
 refine ⟨F,g',_,c',_,H',nx+1,Gm hP ho,xB _,λx hx=> ?_,.refl _,λk hk=>aL λe=>(by rw[e,hpn] at hk;cases hk),?_,k1.sub (λt x h=>(by cases h)) λk b h=> ?_,λx hx h=> ?_,λh=>by cases h⟩
 ·by_cases h1:x=(g K).n
  ·have:H (g K).n=some _:=hH;rw[<-h1,fc x (by omega)] at this;cases this
  ·exact (GH x h1 (by omega)).trans (fc x (by omega))
 ·have:=Vh (F:=F) (g:=g') (K:=K) (s:=sz) (n:=Q.length+V.length) (by rw[gK])
  rw[gK] at this;exact this
 ·show lk k [(K,_),(2,_),(K,_)]=_;rw[dz] at h ⊢;split
  ·rename_i e;rw[aH e] at h;exact h
  ·rename_i e;rw[aL e] at h;rw[dz] at h ⊢;split
   ·rename_i e;rw[aH e] at h;exact h
   ·rename_i e;rw[aL e] at h;cases h
 ·by_cases h1:x=(g K).n
  ·rw[h1];have:H (g K).n=some _:=hH;rw[this];simp
  ·rwa[GH x h1 (by omega)] at h
def sO (xs:List Int):bA:=xs.map λx=> [AV.int .i64 x]
def Ah (z:Bool) (xs:List Int):List Int:=aQ z (lK xs) (kT xs)
def akd (x:Int) (xs:List Int):(sO (x::xs)).flatten=AV.int .i64 x::(sO xs).flatten:=rfl
def aat:∀xs:List Int,dA F g (mM xs) (sO xs).flatten
 | []=>.nil
 |x::xs=>.cons (.lit _) (aat xs)
def Wn:∀{xs:List Int} {vs:aY},dA F g vs (sO xs).flatten->vs=mM xs
 | [],vs,h=>by cases h;rfl
 |x::xs,vs,h=>by
  rw[akd] at h;cases h with|cons q t=>
  cases q;rw[Wn t];rfl
def PU:∀xs:List Int,LI (mM xs)=some xs
 | []=>rfl
 |x::xs=>by
  show bT (akL (.int .i64 (.lit x))) (LI (mM xs)) (λx r=>some (x::r))=_
  rw[PU xs];rfl
def akU (z:Bool) (xs:List Int) (l:aY):(mM (Ai z xs)++l).take (Ah z xs).length=mM (Ah z xs):=by
 cases z
 ·show (mM (kT xs++List.replicate (xs.length-(kT xs).length) 0)++l).take (kT xs).length=mM (kT xs);have e:mM (kT xs++List.replicate (xs.length-(kT xs).length) 0)=mM (kT xs)++mM (List.replicate (xs.length-(kT xs).length) 0):=by simp[mM]
  rw[e,lu,DZ (by simp[mM])]
 ·show (mM (lK xs)++l).take (lK xs).length=mM (lK xs);rw[DZ (by simp[mM])]
def VC:∀xs:List Int,(kT xs).length<=xs.length
 | []=>dg _
 | [x]=>dg _
 |x::y::l=>by
  have:=VC (y::l);show (if x=y then kT (y::l) else x::kT (y::l)).length<=_
  split
  ·exact Nat.le_succ_of_le this
  ·exact Nat.succ_le_succ this
def M7 (x:Int):∀ys:List Int,(zt x ys).length=ys.length+1
 | []=>rfl
 |y::ys=>by
  unfold zt;split
  ·rfl
  ·rw[kr,M7 x ys];rfl
def A9:∀xs:List Int,(lK xs).length=xs.length
 | []=>rfl
 |x::xs=>by rw[lK,M7,A9 xs];rfl
def aud (z:Bool) (xs:List Int):(Ah z xs).length<=xs.length:=by
 cases z
 ·exact VC xs
 ·exact v8 (A9 xs)
def abr (b:Bool) (xs:List Int):(Ai b xs).length=xs.length:=by
 cases b
 ·have:=VC xs;show (kT xs++List.replicate (xs.length-(kT xs).length) 0).length=_;rw[gO,tR];omega
 ·exact A9 xs
def Wm (xs:List Int):∀r∈sO xs,r.length=1:=λr hr=>by
 obtain ⟨x,_,rfl⟩:=cO.1 hr;rfl
def gn.ints {c:Nat} {xs:List Int} (hP:Au E k c) (h0:Nat.ble 1048576 c=true) (h1:Nat.beq c 1048576=z) (hn:xs.length=n) (h6:n<=4294967295):
  gn E k [(0,.rows false e 1 (sO xs))] [.ms 0 1 0 n] (aQ z (.cS []) (.ms 0 1 0 (Ah z xs).length)) [(0,.rows false e 1 (sO (Ah z xs)))]:=.mk λ{F g Y c0 H nx aa} r fc has=>by
 cases has with| @cons _ v _ _ _ q1 t1=>
 cases t1;have hpr:∀f new aa,qA E c f new aa=PT z f aa:=λf new aa=>by
  unfold qA;rw[h0,h1,bH,aH rfl]
 subst hn;rcases OE xs.length with hz|Vq
 ·obtain rfl:xs= []:=wa.1 hz;have e0:Ah z []= []:=by cases z<;>rfl
  rw[e0];have hv:v= .dE\/∃id c',v= .sl id 0 0 c':=by
   cases q1 with
   |rn=>exact .inl rfl
   |ms _ _ _ hb=>exact .inr ⟨(g 0).n,_,by rw[lV];rfl⟩
   |xc _ _ hl=>omega
  have ho:qA E c H nx [v]=some (aQ z (.cS []) v,[]):=by
   rw[hpr];rcases hv with rfl|⟨id,c',rfl⟩
   ·cases z<;>rfl
   ·cases z<;>rfl
  refine ⟨F,g,Y,c0,_,_,nx+1,Gm hP ho,xB _,λx hx=>fc x (by omega),.refl _,λ_ _=>rfl,?_,r,λx _ h=>h,λh=>by cases h⟩
  cases z
  ·exact q1
  ·exact .cS .nil
 ·obtain ⟨hb,rfl⟩:=Gr q1 Vq;have hlk:lk 0 [((0:Nat),Bx.rows false e 1 (sO xs))]=some (.rows false e 1 (sO xs)):=by rw[dz,aH rfl]
  rcases r.cy hlk with ⟨_,_,mU,_⟩|⟨_,svs,L,hφ,hH,_,hu,jm,q,_⟩
  ·rw[hb] at mU;cases mU
  have own:=(r.bx 0 _ hlk).2.2;rw[hφ] at own;have Bw:(sO xs).length=xs.length:=by simp[sO]
  have hl:=oA jm;have q:=q.dat;rw[Bw,Nat.mul_one] at hl q;rw[Bw] at jm;have e1:svs.take xs.length=mM xs:=Wn q;have e2:(svs.drop 0).take xs.length=mM xs:=by rw[rR];exact e1
  have ho:qA E c H nx [.sl (g 0).n 0 xs.length (g 0).c]=some (aQ z (.cS []) (.sl (g 0).n 0 (kT xs).length (g 0).c),[((g 0).n,some (SO.cells e (svs.take 0++(mM (Ai z xs)++svs.drop (Nat.add 0 xs.length)))))]):=by
   rw[hpr];show aQ (Nat.beq xs.length 0) _ (az (nq (H (g 0).n)) _)=_;rw[show H (g 0).n=_ from hH,show Nat.beq xs.length 0=false from Bool.eq_false_iff.2 λh=>by have:=(beq_iff _ _).1 h;omega]
   show az (LI ((svs.drop 0).take xs.length)) _=_;rw[e2,PU];show aQ (Nat.ble 1 xs.length&&(Nat.ble (Nat.add 0 xs.length) svs.length&&Nat.ble xs.length 4294967295)) _ none=_;rw[rf Vq,rf h6,show Nat.add 0 xs.length=xs.length from cA _,rf hl];rfl
  have hol:(sO (Ah z xs)).length=(Ah z xs).length:=by simp[sO]
  generalize hX:(svs.take 0++(mM (Ai z xs)++svs.drop (Nat.add 0 xs.length)))=X at ho;have hlen:X.length=svs.length:=by
   have:=abr z xs;have e3:Nat.add 0 xs.length=xs.length:=cA _;rw[<-hX,e3];simp[mM,this];omega
  have key:=r.wr0 (b':=.rows false e 1 (sO (Ah z xs))) (id:=(g 0).n) (o':=.cells e X) (L':= [((g 0).n,.cells e X)]) fc (by rw[show H (g 0).n=_ from hH];simp) (own (_,_) jt).2
   (.cy hb (λhc=>by cases hc) (Wm _) (by rw[hol,hlen];exact Qo jm (aud z xs)) (.uI (Wm _) (by
    rw[hol,Nat.mul_one,<-hX,DY,jW,akU];exact aat _)) λp hp=>by cases hp) (by simp) (λp hp=>.inl (ez.1 hp))
  obtain ⟨φ',c',k1,k2,k3⟩:=key;refine ⟨F,g,φ',c',_,_,nx+1,Gm hP ho,xB _,k1,.refl _,λ_ _=>rfl,?_,k2,k3,λh=>by cases h⟩
  cases z
  ·exact Vh hb
  ·exact .cS .nil
def gn.cmp {a b:ByteArray} (sX:E.P.funcs[k]? =some fn) (hb:fn.body=none) (hn:(fn.name== "runtime.NumGoroutine")=false) (e1:Extern.findNext fn=none) (e2:Extern.find fn=some Extern.BytealgCompare.compare):gn E k [] [.str a,.str b] (.int .i64 (EZ a b)) []:=.mk λ{F g Y c H nx aa} r fc has=>by
 cases has with|cons h1 t1=>
 cases t1 with|cons h2 t2=>
 cases t2;cases h1;cases h2;refine ⟨F,g,Y,c,.int .i64 (.lit (EZ a b)),H,nx,λm g w u us hE hr eV hu jL=> ?_,dg _,fc,.refl _,λ_ _=>rfl,.lit _,r,λ_ _ h=>h,λh=>by cases h⟩
 cases hu with
 | @fn _ first eG _ _ pO qZ=>
 have qD:j8 g (first.toList++us++eG.toList) [.str a,.str b]:=(pO.append jL).append qZ
 have po:first++us.toArray++eG=(first.toList++us++eG.toList).toArray:=by apply uD;simp
 obtain ⟨v1,v2,e,h1,h2⟩:=D7 qD;rw[e] at po;cases h1;cases h2;refine ⟨{target:=.fn (.func k) eG,args:=first++us.toArray},rfl,.inr (.inr ⟨.int .i64 (Lib.compareBytes a.data.toList b.data.toList),w,?_,_,rfl,g,.int _ _ ?_,hr,Fr.refl _ _ _,λ_ _=>rfl,eV⟩)⟩
 ·show (callFunc k (first++us.toArray++eG)).run E.P w=_
  rw[po,run_callFunc_extern sX hn (by rw[hb];rfl) e1 e2,Lib.run_compareString]
  rfl
 ·rw[JO];rfl
def gn.done (hd:J7 E.P k v) (hv:∀F g,VA F g v y):gn E k [] [] y []:=.mk λ{F g Y c H nx aa} r fc has=>by
 cases has;obtain ⟨qt,h4⟩:=hd;refine ⟨F,g,Y,c,v,H,nx,λm g w u us hE hr eV hu jL=> ?_,dg _,fc,.refl _,λ_ _=>rfl,hv F _,r,λ_ _ h=>h,λh=>by cases h⟩
 cases hu with
 | @fn _ first eG _ _ pO qZ=>
 have ef:first= #[]:=by
  generalize hz:first.toList=z at pO
  cases pO;simpa using hz
 have ec:eG= #[]:=by
  generalize hz:eG.toList=z at qZ;cases qZ;simpa using hz
 cases jL;subst ef;subst ec;refine ⟨{target:=.fn (.func k) #[],args:= #[]},rfl,.inl ⟨k,#[],GL qt #[] w,?_⟩⟩;refine CallsIn.mono (h4 m w) ?_;rintro e w' ⟨r,rfl,xf,hs⟩;exact ⟨r,rfl,g,xf g,hr.grow hs.size hs.heap,⟨hs.os,hs.tape,hs.output,hs.size,.refl _,λb hb _=>hs.heap b hb,λb hb hm=>hm⟩,λ_ _=>rfl,eV⟩
end
end Go.bX
namespace Go.bX
open Go.RowKit
variable {nb nx:Nat} {v:Value} {H:Hf} {k f:FuncId} {aa:aY} {us:fu} {xs:bc} {b:Bool}
section
variable {H':Hf} {nx':Nat}
def r9 (nb:Nat):Value->SV
 | .bool b=>.bool b
 | .int k n=>.int k (.lit n)
 | .string s=>.str s
 | .slice a n c=>
  if n=0 then (if a=none/\c=0 then .dE else .sle)
  else (match a with
   |some ⟨b,o,none⟩=>if b<nb/\n<=c then .sl b o n (.k c) else .undef
   |_=>.undef)
 |_=>.undef
def abB (nb:Nat):Value->SV
 | .agg cs=>.agg (cs.toList.map (r9 nb))
 |v=>r9 nb v
def akY (nb:Nat):Obj->Option SO
 | .cells cur _ _=>some (.ro (cur.toList.map (r9 nb)))
 |_=>none
def mir (nb:Nat):List Obj->Nat->Hp
 | [],_=>.nil
 |o::l,i=>(mir nb l (i+1)).set i (akY nb o)
def ux (W:World):Hp:=mir W.heap.size W.heap.toList 0
def gW (P:Program) (W:World):Gh:=⟨λ_=>0,P.cellsOf,λid=>if id<W.heap.size then some (id,0) else none,λ_=>0,λ_=>0,λb=>W.heap[b]?⟩
def aic (nb:Nat):∀(l:List Obj) (i x:Nat),(mir nb l i).get x=if x<i then none else (l[x-i]?).bind (akY nb)
 | [],i,x=>by show (Tr.nil:Hp).get x=_;simp;rfl
 |o::l,i,x=>by
  show ((mir nb l (i+1)).set i (akY nb o)).get x=_;rw[Tr.pD];by_cases hx:x=i
  ·subst hx;simp
  ·rw[aL hx,aic nb l (i+1) x];by_cases cY:x<i
   ·rw[aH cY,aH (by omega)]
   ·rw[aL cY,aL (by omega),show x-i=(x-(i+1))+1 by omega,rT]
def Gs (W:World) (x:Nat):(ux W).get x=(W.heap[x]?).bind (akY W.heap.size):=by
 unfold ux;rw[aic];simp
variable {P:Program} {W:World}
def arj (v:Value):VR (gW P W) v (r9 W.heap.size v):=by
 unfold r9;split
 ·exact .bool _
 ·exact .int _ _ rfl
 ·exact .str _
 ·rename_i a n c;split
  ·rename_i hn;subst hn;split
   ·rename_i h;obtain ⟨rfl,rfl⟩:=h;exact .dE
   ·exact .sle
  ·split
   ·rename_i b o;split
    ·rename_i h;have:=VR.sl (g:=gW P W) (id:=b) (off:=o) (n:=n) (b:=b) (o:=0) (c:=c) (cap:=.k c) (by show (if b<W.heap.size then some (b,0) else none)=_;rw[aH h.1]) h.2 (λm hm=>by cases hm;rfl) (λe he=>by cases he)
     rwa[cA] at this
    ·exact .undef _
   ·exact .undef _
 ·exact .undef _
def aCm (h:HQ (r9 nb v)=false):v.oneCell'=true:=by
 cases v<;>first|rfl|(cases h;done)
def aFi:HR (gW P W) (ux W).get W:=by
 refine ⟨λid o ho=> ?_,λi j x y b c d hx hy h1 h2=> ?_⟩
 ·rw[Gs] at ho;cases hb:W.heap[id]? with
  |none=>rw[hb] at ho;cases ho
  |some ob=>
   have cY:id<W.heap.size:=(nh.1 hb).1;refine ⟨id,0,aH cY,cY,?_⟩;rw[hb] at ho;cases ob with
   |cells cur e fz=>
    cases ho;refine ⟨cur,e,fz,hb,hb,λj x hx=> ?_⟩
    rw[lz] at hx;cases hv:cur.toList[j]? with
    |none=>rw[hv] at hx;cases hx
    |some v=>
     rw[hv] at hx;cases hx;exact ⟨v,by rw[cA];simpa using hv,λhu=>⟨aCm hu,arj v⟩⟩
   |_=>cases ho
 ·have k1:(if i<W.heap.size then some (i,0) else none)=some (b,c):=h1
  have k2:(if j<W.heap.size then some (j,0) else none)=some (b,d):=h2
  split at k1
  ·split at k2
   ·cases k1;cases k2;rfl
   ·cases k2
  ·cases k1
variable {E:Env} {g:Gh} {w:World}
def aBL [hF:Hw E] {v:SV} (IG:oC E false (.fn (.func k) [] []) aa H nx v H' nx') (qt:Vu E (.fn (.func k) [] [])=true) (hE:dW E g) (hr:HR g H w) (ed:∀x,nx<=x->g.Z x=none) (jL:j8 g us aa) (m:Nat):CallsIn Fence.wide m E.P k us.toArray w λe w'=>∃r g',e= .returned r/\VR g' r v/\HR g' H' w'/\Fr g H w g' H' w':=by
 obtain ⟨k',fi,ca,fn,e1,sX,oo⟩:=Jx qt;cases e1;obtain ⟨d,xl,HV⟩:=IG m g w (.func (.func k) #[] #[]) us hE hr ed (.fn .nil .nil) jL;have hd:d={target:=.fn (.func k) #[],args:= #[]++us.toArray}:=by
  rw[IW] at xl;cases xl;rfl
 subst hd;have Ak:∀(args:ig) (w:World),(invoke (.fn (.func k) #[]) args).run E.P w=(callFunc k (args++ #[])).run E.P w:=λ_ _=>rfl
 rcases pK (hF.fn k fn sX).1 oo (#[]++us.toArray++ #[]) w with ⟨hc,_⟩|hc
 ·rcases HV with ⟨k',JS,q1,q2⟩|⟨l,k',t',JS,b',q1,_⟩|⟨r,w',q1,_⟩<;>(rw[Ak,hc] at q1;cases q1)
 ·rcases HV with ⟨k',JS,q1,q2⟩|⟨l,k',t',JS,b',q1,_⟩|⟨r,w',q1,_⟩
  ·rw[Ak,hc] at q1;cases q1;have e: #[]++us.toArray++ #[]=us.toArray:=by simp
   rw[e] at q2;refine CallsIn.mono q2 ?_;rintro e w' ⟨r,rfl,g',h1,h2,h3,_,_⟩;exact ⟨r,g',rfl,h1,h2,h3⟩
  ·rw[Ak,hc] at q1;cases q1
  ·rw[Ak,hc] at q1;cases q1
def alX {E:Env} [Hw E] (hE:dW E (gW E.P W)) (hc:gn E f [] xs (.bool b) []) (qt:Vu E (.fn (.func f) [] [])=true) (hx:dA (ux W).get lA aa xs) (jL:j8 (gW E.P W) us aa):Calls E.P f us.toArray W λe W'=>e= .returned (.bool b)/\Below W.heap.size W W':=by
 have fc:∀x,W.heap.size<=x->(ux W).get x=none:=λx hx=>by
  rw[Gs,OA hx];rfl
 have hent:Rel (ux W).get lA (λ_=> []) (λ_=>none) ⟨[],[]⟩ noT (ux W).get:=⟨λt x hx=>(by cases hx),λk b hb=>(by cases hb),λi o h=>⟨h,rfl⟩,λ_ _=>rfl⟩
 obtain ⟨F',g',φ',c',v,H',nx',IG,eV,hbd',hF,_,hv,hrel,_,_⟩:=hc.go hent fc hx;have:=callsIn_wide.1 (aBL IG qt hE aFi (λx hx=>aL (Nat.not_lt.2 hx)) jL 0)
 refine this.mono ?_;rintro e W' ⟨r,g2,rfl,k1,k2,k3⟩;cases hv;cases k1;refine ⟨rfl,k3.os,k3.tape,k3.output,k3.size,λx hx=> ?_⟩
 cases hm:(ux W).get x with
 |none=>
  refine k3.old x hx λ⟨id,o,c,z1,z2⟩=> ?_
  have z2:(if id<W.heap.size then some (id,0) else none)=some (x,c):=z2
  split at z2
  ·cases z2;have z1:(ux W).get x=some o:=z1;rw[hm] at z1;cases z1
  ·cases z2
 |some o=>
  obtain ⟨b',c',y1,y2,y3⟩:=k2.ob x o (hrel.fr x o (hF x o hm)).1;have y0:g2.Z x=some (x,0):=k3.le.Z x (x,0) (aH hx);rw[y0] at y1;cases y1;rw[Gs] at hm;cases hb:W.heap[x]? with
  |none=>rw[hb] at hm;cases hm
  |some ob=>
   rw[hb] at hm;cases ob with
   |cells cur e fz=>
    cases hm;obtain ⟨iZ,e',fz',w1,w2,_⟩:=y3;have w3:g2.wb x=W.heap[x]? :=congrFun k3.le.wb x;rw[w1,<-w2,w3,hb]
   |_=>cases hm
end
end Go.bX
namespace Go.bX
open Go.RowKit Go.Proofs.YtbnkhmoelnfjoaaGreat
variable {a vs:fu} {x xs:bc} {v:Value} {J:Type} {c s nb:Nat} {e t:TypeId} {ps:List MemPlace}
section
mutual
def L6:AV->Nat
 | .lit (.str s)=>s.size+1
 | .sl _ _ _ _ rows=>yd rows+1
 |_=>1
def yd:bA->Nat
 | []=>0
 |r::rs=>mA r+yd rs
def mA:bc->Nat
 | []=>0
 |x::xs=>L6 x+mA xs
end
def JQ (xs ys:bc):mA (xs++ys)=mA xs+mA ys:=by
 induction xs with
 |nil=>simp[mA]
 |cons x xs ih=>simp[mA,ih];omega
def wT {J O:Type} (R:J->O->Prop):List J->List O->Prop
 | [],[]=>True
 |a::l,b::m=>R a b/\wT R l m
 |_,_=>False
def jM (P:Program):Nat->TypeId->bc->Prop
 |0,_,_=>False
 |n+1,t,xs=>
  match P.underlying t with
  |some .bool=>∃b,xs= [.bool b]
  |some (.int k)=>∃i,xs= [.int k i]/\(Lit.int k i).wf=true
  |some .string=>∃s:ByteArray,xs= [.str s]/\s.size<=maxLen
  |some (.slice e)=>∃rows,xs= [.qp e (P.cellsOf e) rows.length rows]/\∀r∈rows,jM P n e r
  |some (.struct fs)=>∃qM:bA,xs=qM.flatten/\wT (λf ys=>jM P n f.type ys) fs.toList qM
  |some (.array m e)=>∃qM:bA,xs=qM.flatten/\qM.length=m/\∀ys∈qM,jM P n e ys
  |_=>False
def vG (P:Program) (S:TypeId->Bool) (total:Nat):Nat->List Field->Bool
 |off,[]=>off==total
 |off,f::fs=>f.offset==off&&S f.type&&vG P S total (off+P.cellsOf f.type) fs
def Ip (P:Program) (S:TypeId->Bool) (t:TypeId):Bool:=
 match P.underlying t with
 |some .bool|some (.int _)|some .string=>true
 |some (.struct fs)=>vG P S (P.cellsOf t) 0 fs.toList
 |some (.array n e)=>P.cellsOf t==n*P.cellsOf e&&S e
 |some (.slice e)=>S e&&decide (0<P.cellsOf e)
 |_=>false
def CR (W:World) (cs:fu) (xs:bc):Prop:=dA (ux W).get lA (cs.map (r9 W.heap.size)) xs/\∀v∈cs,HQ (r9 W.heap.size v)=false
section
variable {H:Type} {enc:TypeId×Value->H} {P:Program} {S:TypeId->Bool} {w:World} {base:Nat} {spare:Nat->Bool} {held:Bool}
variable {y ys:bc} {O:Type}
def CR.nil:CR w [] []:=⟨.nil,λv hv=>by cases hv⟩
def CR.append {b:fu} (h:CR w a x) (k:CR w b y):CR w (a++b) (x++y):=⟨by rw[mB];exact h.1.append k.1,λv hv=>(eR.1 hv).elim (h.2 v) (k.2 v)⟩
def CR.one {x:AV} (h:VA (ux w).get lA (r9 w.heap.size v) x) (hu:HQ (r9 w.heap.size v)=false):CR w [v] [x]:=⟨.cons h .nil,λu sd=>by rw[ez.1 sd];exact hu⟩
def CR.length (h:CR w a x):a.length=x.length:=by have:=h.1.length;simpa using this
def yN {J O:Type} {f:J->Option O}:∀{l:List J} {r:List O},l.mapM f=some r->wT (λa b=>f a=some b) l r
 | [],r,h=>by simp at h;subst h;trivial
 |a::l,r,h=>by
  rw[SZ] at h;cases ha:f a with
  |none=>simp[ha] at h
  |some b=>
   cases hl:l.mapM f with
   |none=>simp[ha,hl] at h
   |some m=>
    simp[ha,hl] at h;subst h;exact ⟨ha,yN hl⟩
def Nh {J O:Type} {R:J->O->Prop}:∀{l:List J} {m:List O},wT R l m->l.length=m.length
 | [],[],_=>rfl
 |_::_,_::_,h=>by simp[Nh h.2]
 | [],_::_,h=>h.elim
 |_::_,[],h=>h.elim
def Ob {J O:Type} {R:J->O->Prop}:∀{l:List J} {m:List O},wT R l m->∀{i:Nat} {b:O},m[i]? =some b->∃a,l[i]? =some a/\R a b
 | [],[],_,_,_,h=>by simp at h
 |a::l,b::m,h,i,x,hx=>by
  cases i with
  |zero=>simp at hx;subst hx;exact ⟨a,rfl,h.1⟩
  |succ i=>simp at hx;obtain ⟨y,h1,h2⟩:=Ob h.2 hx;exact ⟨y,by simpa using h1,h2⟩
 | [],_::_,h,_,_,_=>h.elim
 |_::_,[],h,_,_,_=>h.elim
def avR {R:J->O->Prop} {l:List J} {m:List O} (h:wT R l m) {b:O} (hb:b∈m):∃a,R a b:=by
 obtain ⟨i,hi⟩:=List.mem_iff_getElem?.1 hb;obtain ⟨a,_,ha⟩:=Ob h hi;exact ⟨a,ha⟩
def HJ (n:Nat)
  (ih:∀t cs x,S t=true->DataW.trod enc P w base spare held n t cs=some x->∃xs,CR w cs xs/\jM P n t xs/\mA xs<=Rows.uptoBulk x.1) (total:Nat):
  ∀(fs:List Field) (off:Nat) (cs:fu) (ys:List (DataW H×List MemPlace)),vG P S total off fs=true->cs.length=total->
   wT (λf y=>DataW.trod enc P w base spare held n f.type ((cs.drop f.offset).take (P.cellsOf f.type))=some y) fs ys->off<=total->
   ∃qM:bA,CR w (cs.drop off) qM.flatten/\wT (λf zs=>jM P n f.type zs) fs qM/\mA qM.flatten<=Rows.uptoBulkAll (ys.map (·.1))
 | [],off,cs,ys,ht,hl,h2,_=>by
  simp[vG] at ht;refine ⟨[],?_,trivial,by simp[mA]⟩
  rw[pr (by omega)]
  exact .nil
 |f::fs,off,cs,[],_,_,h2,_=>h2.elim
 |f::fs,off,cs,y::ys,ht,hl,h2,ho=>by
  simp only[vG,bF,qI] at ht;obtain ⟨⟨ht0,htt⟩,ht1⟩:=ht;obtain ⟨h0,h1⟩:=h2;obtain ⟨xs,c1,c2,c3⟩:=ih _ _ _ htt h0;have hle:∀(fs:List Field) (o:Nat),vG P S total o fs=true->o<=total:=by
   intro fs;induction fs with
   |nil=>intro o h;simp[vG] at h;omega
   |cons g gs ihg=>intro o h;simp only[vG,bF] at h;have:=ihg _ h.2;omega
  have hle':=hle fs _ ht1;obtain ⟨qM,d1,d2,d3⟩:=HJ n ih total fs (off+P.cellsOf f.type) cs ys ht1 hl h1 hle';refine ⟨xs::qM,?_,⟨c2,d2⟩,?_⟩
  ·rw[ht0] at c1;have:cs.drop off=(cs.drop off).take (P.cellsOf f.type)++cs.drop (off+P.cellsOf f.type):=by
    rw[<-tV];exact (DN _ _).symm
   rw[this];exact c1.append d1
  ·simp only[qF,jc,Rows.uptoBulkAll,JQ];omega
def JT (n:Nat) (e:TypeId) (he:S e=true)
  (ih:∀t cs x,S t=true->DataW.trod enc P w base spare held n t cs=some x->∃xs,CR w cs xs/\jM P n t xs/\mA xs<=Rows.uptoBulk x.1) (cs:fu):
  ∀(m k:Nat) (ys:List (DataW H×List MemPlace)),cs.length=(k+m)*P.cellsOf e->
   wT (λi y=>DataW.trod enc P w base spare held n e ((cs.drop (i*P.cellsOf e)).take (P.cellsOf e))=some y) (List.range' k m) ys->
   ∃qM:bA,CR w (cs.drop (k*P.cellsOf e)) qM.flatten/\qM.length=m/\(∀zs∈qM,jM P n e zs)/\mA qM.flatten<=Rows.uptoBulkAll (ys.map (·.1))
 |0,k,ys,hl,h2=>by
  refine ⟨[],?_,rfl,by simp,by simp[mA]⟩
  rw[pr (by simp at hl;omega)]
  exact .nil
 |m+1,k,[],_,h2=>by simp[yC,wT] at h2
 |m+1,k,y::ys,hl,h2=>by
  rw[yC] at h2;obtain ⟨h0,h1⟩:=h2;obtain ⟨xs,c1,c2,c3⟩:=ih _ _ _ he h0;obtain ⟨qM,d1,d2,d3,d4⟩:=JT n e he ih cs m (k+1) ys (by rw[hl];congr 1;omega) h1
  refine ⟨xs::qM,?_,by simp[d2],?_,?_⟩
  ·have:cs.drop (k*P.cellsOf e)=(cs.drop (k*P.cellsOf e)).take (P.cellsOf e)++cs.drop ((k+1)*P.cellsOf e):=by
    rw[gD,pt,<-tV];exact (DN _ _).symm
   rw[this];exact c1.append d1
  ·intro zs hz;rcases cH.1 hz with rfl|hz
   ·exact c2
   ·exact d3 zs hz
  ·simp only[qF,jc,Rows.uptoBulkAll,JQ];omega
def aCK (a:Addr) (k j:Nat) (h:a.spot=none\/0<k):(a.add k).add j=⟨a.block,a.off+k+j,none⟩:=by
 obtain ⟨b,o,s⟩:=a;by_cases hk:k=0
 ·subst hk;simp at h;subst h;by_cases hj:j=0<;>simp[Addr.add,hj]
 ·by_cases hj:j=0<;>simp[Addr.add,hk,hj]
def IC (n:Nat) (e:TypeId) (he:S e=true) (a:Addr)
  (ih:∀t cs x,S t=true->DataW.trod enc P w base spare held n t cs=some x->∃xs,CR w cs xs/\jM P n t xs/\mA xs<=Rows.uptoBulk x.1) (hs:0<P.cellsOf e):
  ∀(m k:Nat) (ys:List (DataW H×List MemPlace)),
   wT (λi y=>((w.cells? base (a.add (i*P.cellsOf e)) (P.cellsOf e)).bind (DataW.trod enc P w base spare held n e))=some y) (List.range' k m) ys->
   ∃(rows:bA) (vs:fu),CR w vs rows.flatten/\vs.length=m*P.cellsOf e/\(∀j v,vs[j]? =some v->w.cell? ⟨a.block,a.off+k*P.cellsOf e+j,none⟩=some v)/\rows.length=m/\(∀zs∈rows,jM P n e zs/\zs.length=P.cellsOf e)/\yd rows<=Rows.uptoBulkAll (ys.map (·.1))/\(k=0->0<m->a.spot=none)
 |0,k,ys,h2=>⟨[],[],.nil,by simp,λj v hv=>(by simp at hv),rfl,by simp,by simp[yd],by simp⟩
 |m+1,k,[],h2=>by simp[yC,wT] at h2
 |m+1,k,y::ys,h2=>by
  rw[yC] at h2;obtain ⟨h0,h1⟩:=h2;obtain ⟨rows,vs,d1,dl,dc,d2,d3,d4,d5⟩:=IC n e he a ih hs m (k+1) ys h1;cases hc:w.cells? base (a.add (k*P.cellsOf e)) (P.cellsOf e) with
  |none=>simp[hc] at h0
  |some cs=>
   simp only[hc,au] at h0;obtain ⟨xs,c1,c2,c3⟩:=ih _ _ _ he h0;unfold World.cells? at hc;split at hc
   ·have gV:=yN hc;have hlen:cs.length=P.cellsOf e:=by have:=Nh gV;simpa using this.symm
    have o4:∀j v,cs[j]? =some v->w.cell? ((a.add (k*P.cellsOf e)).add j)=some v:=by
     intro j v hj;obtain ⟨i,hi,hv⟩:=Ob gV hj;have sW:i=j:=by
      have:=(bY.1 hi);obtain ⟨q1,q2⟩:=this;simpa using q2.symm
     rw[<-sW];exact hv
    have axY:a.spot=none\/0<k*P.cellsOf e:=by
     by_cases hk:0<k*P.cellsOf e
     ·exact .inr hk
     ·have hk0:k*P.cellsOf e=0:=by omega
      have h00:=o4 0 (cs[0]'(by omega)) (by simp)
      rw[hk0] at h00;simp only[Addr.add,aB] at h00;unfold World.cell? at h00;split at h00
      ·split at h00
       ·simp at h00
       ·rename_i q;left;simpa using q
      ·simp at h00
    refine ⟨xs::rows,cs++vs,?_,?_,λj v hj=> ?_,by simp[d2],?_,?_,?_⟩
    ·rw[qF];exact c1.append d1
    ·rw[gO,hlen,dl,gD];omega
    ·by_cases fS:j<cs.length
     ·rw[nR fS] at hj;have h:=o4 j v hj;rw[aCK a _ j axY] at h;exact h
     ·rw[nf (by omega)] at hj
      have h:=dc _ v hj;rw[hlen] at h;rw[hlen] at fS;rw[gD,pt] at h;rw[show a.off+k*P.cellsOf e+j=a.off+(k*P.cellsOf e+P.cellsOf e)+(j-P.cellsOf e) by omega]
      exact h
    ·intro zs hz;rcases cH.1 hz with rfl|hz
     ·exact ⟨c2,by rw[<-c1.length,hlen]⟩
     ·exact d3 zs hz
    ·simp only[yd,jc,Rows.uptoBulkAll];omega
    ·intro hk0 _;rcases axY with h|h
     ·exact h
     ·subst hk0;simp at h
   ·simp at hc
def atm {b o n:Nat} {rows:bA} (h:CR w vs rows.flatten) (hl:vs.length=n*s) (hc:∀j v,vs[j]? =some v->w.cell? ⟨b,o+j,none⟩=some v) (hn:rows.length=n) (hn0:0<n) (hs:0<s) (hu:∀r∈rows,r.length=s) (jm:n<=c):
  VA (ux w).get lA (r9 w.heap.size (.slice (some ⟨b,o,none⟩) n c)) (.qp e s rows.length rows)/\HQ (r9 w.heap.size (.slice (some ⟨b,o,none⟩) n c))=false:=by
 have Vq:0<n*s:=Nat.mul_pos hn0 hs;have hb:∃cur et fz,w.heap[b]? =some (.cells cur et fz):=by
  have h0:=hc 0 (vs[0]'(by omega)) (by simp)
  unfold World.cell? at h0;split at h0
  ·rename_i cur et fz q;exact ⟨cur,et,fz,q⟩
  ·simp at h0
 obtain ⟨cur,et,fz,hb⟩:=hb;have cY:b<w.heap.size:=(nh.1 hb).1;have DB:∀j v,vs[j]? =some v->cur[o+j]? =some v:=λj v hj=>by
  have:=hc j v hj;unfold World.cell? at this;rw[hb] at this;simpa using this
 have hle:o+n*s<=cur.size:=by
  have h0:=DB (n*s-1) (vs[n*s-1]'(by omega)) (by simp)
  have:=(nh.1 h0).1;omega
 have heq:(cur.toList.drop o).take (n*s)=vs:=by
  apply xv;intro j;rw[eN];split
  ·rename_i hj;rw[fa];have:=DB j (vs[j]'(by omega)) (by simp)
   rw[lx,this];simp
  ·rename_i hj;rw[tQ (by omega)]
 have himg:r9 w.heap.size (.slice (some ⟨b,o,none⟩) n c)= .sl b o n (.k c):=by
  show (if n=0 then _ else if b<w.heap.size/\n<=c then SV.sl b o n (.k c) else .undef)=_
  rw[aL (by omega),aH ⟨cY,jm⟩]
 have hwin:((cur.toList.map (r9 w.heap.size)).drop o).take (n*s)=vs.map (r9 w.heap.size):=by
  rw[<-D1,<-yE,heq]
 have hF:je ((ux w).get b) o (n*s)=some (0,cur.toList.map (r9 w.heap.size)):=by
  rw[Gs,hb];show aQ (uR (((cur.toList.map (r9 w.heap.size)).drop o).take (n*s))) (some (0,cur.toList.map (r9 w.heap.size))) none=_;rw[hwin,bH,aH (JJ λj x hx=> ?_)]
  rw[lz] at hx;cases hv:vs[j]? with
  |none=>rw[hv] at hx;cases hx
  |some v=>rw[hv] at hx;cases hx;exact h.2 v (cT hv)
 rw[himg];subst hn;exact ⟨.sl rfl hF jm (λh=>by cases h) hu (by simpa using hle) (by rw[hwin];exact h.1),rfl⟩
def Ja {a:Option Addr} {F:Hf}:VA F lA (r9 nb (.slice a 0 c)) (.qp e s 0 [])/\HQ (r9 nb (.slice a 0 c))=false:=by
 have h:r9 nb (.slice a 0 c)=if a=none/\c=0 then SV.dE else .sle:=by simp[r9]
 rw[h];split
 ·exact ⟨.nil _ _ _,rfl⟩
 ·exact ⟨.sle _ _,rfl⟩
def OJ (hP:∀t,S t=true->Ip P S t=true):∀(n:Nat) (t:TypeId) (cs:fu) (x:DataW H×List MemPlace),S t=true->DataW.trod enc P w base spare held n t cs=some x->
  ∃xs,CR w cs xs/\jM P n t xs/\mA xs<=Rows.uptoBulk x.1
 |0,_,_,_,_,h=>by simp[DataW.trod] at h
 |n+1,t,cs,x,cY,h=>by
  have ih:=OJ hP n;have qC:=hP t cY;unfold DataW.trod at h;unfold Ip at qC;split at h
  ·rename_i b hu;simp at h;subst h;exact ⟨[.bool b],.one (.lit (.bool b)) rfl,by simp[jM,hu],by simp[mA,L6,Rows.uptoBulk]⟩
  ·rename_i k k' i hu;split at h
   ·rename_i hc;obtain ⟨rfl,hw⟩:=hc;simp at h;subst h;exact ⟨[.int k' i],.one (.lit (.int _ (.lit _))) rfl,by simp[jM,hu,hw],by simp[mA,L6,Rows.uptoBulk]⟩
   ·simp at h
  ·rename_i k k' i hu;rw[hu] at qC;cases qC
  ·rename_i s hu;split at h
   ·rename_i hc;simp at h;subst h;exact ⟨[.str s],.one (.lit (.str _)) rfl,by simp[jM,hu,hc],by simp[mA,L6,Rows.uptoBulk]⟩
   ·simp at h
  ·rename_i hu;rw[hu] at qC;cases qC
  ·rename_i e a hu;rw[hu] at qC;cases qC
  ·rename_i e hu;simp at h;subst h;exact ⟨[.qp e (P.cellsOf e) 0 []],.one (Ja (a:=none) (c:=0)).1 (Ja (F:=λ_=>none) (e:=0) (s:=0)).2,by simp only[jM,hu];exact ⟨[],rfl,λr hr=>by cases hr⟩,by simp[mA,L6,yd,Rows.uptoBulk]⟩
  ·rename_i e a len cap hu;simp only at h;split at h
   ·rename_i hc;cases hr:(List.range len).mapM λi=>(w.cells? base (a.add (i*P.cellsOf e)) (P.cellsOf e)).bind (DataW.trod enc P w base spare held n e) with
    |none=>simp[hr] at h
    |some ys=>
     simp only[hr,au,v7] at h;obtain ⟨rest,_,rfl⟩:=h;simp only[hu,bF,jX] at qC;obtain ⟨he,hs⟩:=qC;have h2:=yN hr;rw[Oz] at h2;obtain ⟨rows,vs,d1,dl,dc,d2,d3,d4,d5⟩:=IC n e he a ih hs len 0 ys h2;have key:VA (ux w).get lA (r9 w.heap.size (.slice (some a) len cap)) (.qp e (P.cellsOf e) rows.length rows)/\HQ (r9 w.heap.size (.slice (some a) len cap))=false:=by
      by_cases uq:len=0
      ·subst uq;rw[sn d2];exact Ja
      ·have hsp:=d5 rfl (by omega)
       obtain ⟨ab,ao,asp⟩:=a;simp at hsp;subst hsp;exact atm d1 dl (λj v hj=>by have:=dc j v hj;simpa using this) d2 (by omega) hs (λr hr=>(d3 r hr).2) hc.2.1
     refine ⟨[.qp e (P.cellsOf e) rows.length rows],.one key.1 key.2,?_,?_⟩
     ·simp only[jM,hu];exact ⟨rows,rfl,λr hr=>(d3 r hr).1⟩
     ·simp only[mA,L6,Rows.uptoBulk];omega
   ·simp at h
  ·rename_i fs hu;split at h
   ·rename_i hl;simp only[v7] at h;obtain ⟨ys,hm,rfl⟩:=h;simp only[hu] at qC;obtain ⟨qM,d1,d2,d3⟩:=HJ n ih _ fs.toList 0 _ ys qC hl (yN hm) (qK _);exact ⟨qM.flatten,by simpa using d1,by simp only[jM,hu];exact ⟨qM,rfl,d2⟩,by simp only[Rows.uptoBulk];omega⟩
   ·simp at h
  ·rename_i m e hu;split at h
   ·rename_i hl;simp only[v7] at h;obtain ⟨ys,hm,rfl⟩:=h;simp only[hu,qI,bF] at qC;have h2:=yN hm;rw[Oz] at h2;obtain ⟨qM,d1,d2,d3,d4⟩:=JT n e qC.2 ih _ m 0 ys (by rw[hl,qC.1];simp) h2
    exact ⟨qM.flatten,by simpa using d1,by simp only[jM,hu];exact ⟨qM,rfl,d2,d3⟩,by simp only[Rows.uptoBulk];omega⟩
   ·simp at h
  all_goals first
   |(rename_i hu;rw[hu] at qC;cases qC;done)
   |(cases h;done)
mutual
def Qa:AV->Prop
 | .lit (.int k (.lit n))=>(Lit.int k n).wf=true
 | .lit (.str s)=>s.size<=maxLen
 | .sl _ _ _ _ rows=>BL rows
 |_=>True
def BL:bA->Prop
 | []=>True
 |r::rs=>wF r/\BL rs
def wF:bc->Prop
 | []=>True
 |x::xs=>Qa x/\wF xs
end
def aci (h:wF xs) (k:wF ys):wF (xs++ys):=by
 induction xs with
 |nil=>exact k
 |cons x xs ih=>exact ⟨h.1,ih h.2⟩
def agp {rows:bA} (h:∀r∈rows,wF r):BL rows:=by
 induction rows with
 |nil=>trivial
 |cons r rs ih=>exact ⟨h r (by simp),ih λx hx=>h x (by simp[hx])⟩
def HX {rows:bA} (h:∀r∈rows,wF r):wF rows.flatten:=by
 induction rows with
 |nil=>trivial
 |cons r rs ih=>exact aci (h r (by simp)) (ih λx hx=>h x (by simp[hx]))
def Y0:∀(n:Nat) (t:TypeId) (xs:bc),jM P n t xs->wF xs
 |0,_,_,h=>h.elim
 |n+1,t,xs,h=>by
  have ih:=Y0 n;unfold jM at h;split at h
  ·obtain ⟨b,rfl⟩:=h;exact ⟨trivial,trivial⟩
  ·obtain ⟨b,rfl,hw⟩:=h;exact ⟨hw,trivial⟩
  ·obtain ⟨b,rfl,hw⟩:=h;exact ⟨hw,trivial⟩
  ·obtain ⟨rows,rfl,hr⟩:=h;exact ⟨agp λr h=>ih _ _ (hr r h),trivial⟩
  ·obtain ⟨qM,rfl,h2⟩:=h;exact HX λr hr=>by obtain ⟨f,hf⟩:=avR h2 hr;exact ih _ _ hf
  ·obtain ⟨qM,rfl,_,h2⟩:=h;exact HX λr hr=>ih _ _ (h2 r hr)
  ·exact h.elim
def aBM {en:J->bc} {rows:bA} (h:∀r∈rows,∃x,r=en x):∃ys:List J,rows=ys.map en:=by
 induction rows with
 |nil=>exact ⟨[],rfl⟩
 |cons r rs ih=>
  obtain ⟨y,rfl⟩:=h r (by simp)
  obtain ⟨ys,rfl⟩:=ih λx hx=>h x (by simp[hx])
  exact ⟨y::ys,rfl⟩
def AR (W:World) (P:Program) (v:Value) (x:AV):Prop:=VA (ux W).get lA (abB W.heap.size v) x/\VR (gW P W) v (abB W.heap.size v)
def aCI (hP:∀t,S t=true->Ip P S t=true) (ht:S t=true) {d:DataW H} (h:DataW.Trod enc P w base spare held t v d ps) (hv:v.cells.toList= [v]):
  ∃x n,AR w P v x/\jM P n t [x]/\mA [x]<=Rows.uptoBulk d:=by
 obtain ⟨n,hn⟩:=h;obtain ⟨xs,h1,h2,h3⟩:=OJ hP n t _ _ ht hn;rw[hv] at h1;obtain ⟨h1,hu⟩:=h1;cases h1 with
 |cons hd ht=>
  cases ht;have e:abB w.heap.size v=r9 w.heap.size v:=by
   cases v<;>first|rfl|(have:=hu _ (ez.2 rfl);cases this;done)
  exact ⟨_,n,⟨by rw[e];exact hd,by rw[e];exact arj v⟩,h2,h3⟩
end
end
end Go.bX
namespace Go.bX
open Go.RowKit Go.ChangeShapes Go.Proofs.YtbnkhmoelnfjoaaGreat
variable {E:Env} {f:FuncId} {fn:Func} {s:ChangeSpec} {tb t:TypeId} {W:World} {before:List MemPlace} {base:Nat} {v:Value}
section
section
variable {H:Type} {enc:TypeId×Value->H} {P:Program}
def HI (hl:laidOutB P=true) {W W':World} {sp:Nat->Bool}:∀{ts:List TypeId} {vs:fu} {ds:List (DataW H)} {ps:List MemPlace},
  (∀t∈ts,P.readableRec t=true/\t<P.types.size)->DataW.TrodAll enc P W 0 (λ_=>true) true ts vs ds ps->Below W.heap.size W W'->(∀p∈ps,p.block<W.heap.size)->(∀p∈ps,sp p.block=true)->
  DataW.TrodAll enc P W' 0 sp true ts vs ds ps
 | [],_,_,_,_,h,_,_,_=>by
  obtain ⟨rfl,rfl,rfl⟩:=trodAll_nil h;exact rfl
 |t::ts,_,_,_,ht,h,hb,cY,hsp=>by
  obtain ⟨v,vs,d,ds,p,q,rfl,rfl,rfl,h1,h2⟩:=trodAll_cons h;refine ⟨p,q,?_,HI hl (λt h=>ht t (by simp[h])) h2 hb (λx hx=>cY x (by simp[hx])) (λx hx=>hsp x (by simp[hx])),rfl⟩
  exact WideElems.Trod_stays hl (ht t (by simp)).1 (ht t (by simp)).2 h1 (λx hx=>hb.same (cY x (by simp[hx]))) (λx hx=>hsp x (by simp[hx]))
def afB {W:World}:∀{vs:fu} {xs:bc},wT (AR W P) vs xs->dA (ux W).get lA (vs.map (abB W.heap.size)) xs/\j8 (gW P W) vs (vs.map (abB W.heap.size))
 | [],[],_=>⟨.nil,.nil⟩
 |v::vs,x::xs,h=>⟨.cons h.1.1 (afB h.2).1,.cons h.1.2 (afB h.2).2⟩
 | [],_::_,h=>h.elim
 |_::_,[],h=>h.elim
def law_contract [Hw E] (hE:∀W,dW E (gW E.P W)) (qt:Vu E (.fn (.func f) [] [])=true) (hl:laidOutB E.P=true) (mS:(fn.params.toList.all λt=>E.P.readableRec t&&decide (t<E.P.types.size))=true) (fE:fn.resultTypes= #[tb]) (htb:E.P.underlying tb=some .bool) (hv:s.vars= []) (sX:∀ds:List (DataW H),ds.length=fn.params.size->s.fn H ds={results:= [.lit (.bool true)],args:=ds}) {args:ig} {ds gs:List (DataW H)} (hW:DataW.Whole enc E.P fn.params.toList s.vars false W args.toList ds gs before) (P5:∃xs:bc,gn E f [] xs (.bool true) []/\wT (AR W E.P) args.toList xs):
  Calls E.P f args W λe W'=>∃v,e= .returned v/\s.post enc E.P fn false true false false W args v W':=by
 obtain ⟨xs,hs,h2⟩:=P5;obtain ⟨k1,k2⟩:=afB h2;have hc:=alX (hE W) hs qt k1 k2;rw[Array.toArray_toList] at hc;refine hc.mono ?_;rintro e W' ⟨rfl,hb⟩;refine ⟨_,rfl,?_⟩;have hW':=hW;obtain ⟨p,q,hA,hV,rfl,hfz,xg⟩:=hW;rw[hv] at hV;obtain ⟨rfl,rfl⟩:=trodVars_none hV;have rp:ds.length=fn.params.size:=by
  have:∀{ts:List TypeId} {vs:fu} {ds:List (DataW H)} {ps:List MemPlace},DataW.TrodAll enc E.P W 0 (λ_=>true) true ts vs ds ps->ds.length=ts.length:=by
   intro ts;induction ts with
   |nil=>intro vs ds ps h;obtain ⟨rfl,rfl,rfl⟩:=trodAll_nil h;rfl
   |cons t ts ih=>intro vs ds ps h;obtain ⟨v,vs,d,ds,p,q,rfl,rfl,rfl,h1,h2⟩:=trodAll_cons h;simp[ih h2]
  simpa using this hA
 have hf:=sX (ds++ []) (by simpa using rp)
 have cY:∀x∈p,x.block<W.heap.size:=λx hx=>hW'.lt x (by simp[hx])
 have htt:∀t∈fn.params.toList,E.P.readableRec t=true/\t<E.P.types.size:=λt ht=>by
  have:=iJ.1 mS t ht;simpa using this
 have hold:∀x∈p,(λb=>decide (b<W.heap.size)) x.block=true:=λx hx=>by simpa using cY x hx
 refine ⟨ds,[],p++ [],[],p,[],hW',?_,?_,?_,hb.frame _,λh=>by cases h⟩
 ·rw[hf,fE];exact trodAll_cons_mk (shut_bool htb _) trodAll_mk0
 ·rw[hf];simp only[tN];exact HI hl htt hA hb cY hold
 ·rw[hf,hv];exact rfl
def agd {e:TypeId} (hu:P.underlying t=some (.slice e)) (h:Value.okWide P W .any base t v):v.cells.toList= [v]:=by
 simp only[Value.okWide,hu,Cell.okWide,Cell.ok] at h;split at h<;>first|rfl|(simp_all;done)|(exact h.elim)
end
end
end Go.bX
namespace Go.Proofs.YtbnkhmoelnfjoaaGreat
open Go.bX
variable {J:Type} {i:Nat}
def tyT:Tr TI:=awH Tryz.prog 312
def Vv:Tr Func:=ayg Tryz.prog
def fnT:Tr Func:=((((Vv.set 182 none).set 184 none).set 185 none).set 165 none).set 219 none
def env (aJS:List Nat) (aDm:List (Nat×Nat)) (Du:List Nat) (stop:List Nat) (lt eq:List (SI×SI×Bool)) (done:List (Nat×SV)):Env:=⟨Tryz.prog,tyT,fnT,lt,eq,done,aJS,aDm,Du,stop⟩
def OK:Mb Tryz.prog tyT Vv:=aDn 312 203 (fe:=Tryz.f203) (by kernel_rfl) (by kernel_rfl) Tryz.func203 (by kernel_rfl) (by kernel_rfl) (by kernel_rfl)
def Eg {t:Tr J} {k:Nat} {f:J} (h:(t.set i none).get k=some f):t.get k=some f:=by
 rw[Tr.pD] at h;split at h
 ·cases h
 ·exact h
def aip:∀k f,fnT.get k=some f->Vv.get k=some f:=λ_ _ h=>Eg (Eg (Eg (Eg (Eg h))))
end Go.Proofs.YtbnkhmoelnfjoaaGreat
namespace Go.Proofs.YtbnkhmoelnfjoaaGreat
open Go.Shelf
def agl:Go.Shelf.Ren:=⟨fun|189=>165|125=>191|257=>190|128=>213|129=>214|294=>204|295=>205|296=>206|297=>207|298=>208|299=>209|216=>210|300=>211|301=>212|328=>222|329=>223|330=>224|331=>225|332=>226|215=>187|343=>236|n=>n,fun|28=>102|3=>3|46=>237|0=>0|51=>271|53=>273|4=>4|183=>264|182=>263|131=>218|5=>5|9=>9|218=>279|222=>191|228=>291|229=>292|n=>n,fun|n=>n⟩
def aii:Go.Proofs.Lays.n189 Tryz.prog agl:={
 mixed:=by kernel_rfl
 f125:=Tryz.func191.trans (congrArg some (by kernel_rfl))
 f128:=Tryz.func213.trans (congrArg some (by kernel_rfl))
 f129:=Tryz.func214.trans (congrArg some (by kernel_rfl))
 f189:=Tryz.func165.trans (congrArg some (by kernel_rfl))
 f215:=Tryz.func187.trans (congrArg some (by kernel_rfl))
 f216:=Tryz.func210.trans (congrArg some (by kernel_rfl))
 f257:=Tryz.func190.trans (congrArg some (by kernel_rfl))
 f294:=Tryz.func204.trans (congrArg some (by kernel_rfl))
 f295:=Tryz.func205.trans (congrArg some (by kernel_rfl))
 f296:=Tryz.func206.trans (congrArg some (by kernel_rfl))
 f297:=Tryz.func207.trans (congrArg some (by kernel_rfl))
 f298:=Tryz.func208.trans (congrArg some (by kernel_rfl))
 f299:=Tryz.func209.trans (congrArg some (by kernel_rfl))
 f300:=Tryz.func211.trans (congrArg some (by kernel_rfl))
 f301:=Tryz.func212.trans (congrArg some (by kernel_rfl))
 f328:=Tryz.func222.trans (congrArg some (by kernel_rfl))
 f329:=Tryz.func223.trans (congrArg some (by kernel_rfl))
 f330:=Tryz.func224.trans (congrArg some (by kernel_rfl))
 f331:=Tryz.func225.trans (congrArg some (by kernel_rfl))
 f332:=Tryz.func226.trans (congrArg some (by kernel_rfl))
 f343:=Tryz.func236.trans (congrArg some (by kernel_rfl))
 t0:=Tryz.underlying0
 a0:=Tryz.isAgg0
 z0:=Tryz.sizeOf0
 v0:=Tryz.zeroValue0
 t3:=Tryz.underlying3
 a3:=Tryz.isAgg3
 z3:=Tryz.sizeOf3
 v3:=Tryz.zeroValue3
 t4:=Tryz.underlying4
 a4:=Tryz.isAgg4
 z4:=Tryz.sizeOf4
 v4:=Tryz.zeroValue4
 t5:=Tryz.underlying5
 a5:=Tryz.isAgg5
 z5:=Tryz.sizeOf5
 v5:=Tryz.zeroValue5
 t9:=Tryz.underlying9
 a9:=Tryz.isAgg9
 z9:=Tryz.sizeOf9
 v9:=Tryz.zeroValue9
 t28:=Tryz.underlying102
 a28:=Tryz.isAgg102
 z28:=Tryz.sizeOf102
 v28:=Tryz.zeroValue102
 t46:=Tryz.underlying237
 a46:=Tryz.isAgg237
 z46:=Tryz.sizeOf237
 v46:=Tryz.zeroValue237
 t51:=Tryz.underlying271
 a51:=Tryz.isAgg271
 z51:=Tryz.sizeOf271
 v51:=Tryz.zeroValue271
 t53:=Tryz.underlying273
 a53:=Tryz.isAgg273
 z53:=Tryz.sizeOf273
 v53:=Tryz.zeroValue273
 t131:=Tryz.underlying218
 a131:=Tryz.isAgg218
 z131:=Tryz.sizeOf218
 v131:=Tryz.zeroValue218
 t182:=Tryz.underlying263
 a182:=Tryz.isAgg263
 z182:=Tryz.sizeOf263
 v182:=Tryz.zeroValue263
 t183:=Tryz.underlying264
 a183:=Tryz.isAgg264
 z183:=Tryz.sizeOf264
 v183:=Tryz.zeroValue264
 t218:=Tryz.underlying279
 a218:=Tryz.isAgg279
 z218:=Tryz.sizeOf279
 v218:=Tryz.zeroValue279
 t222:=Tryz.underlying191
 a222:=Tryz.isAgg191
 z222:=Tryz.sizeOf191
 v222:=Tryz.zeroValue191
 t228:=Tryz.underlying291
 a228:=Tryz.isAgg291
 z228:=Tryz.sizeOf291
 v228:=Tryz.zeroValue291
 t229:=Tryz.underlying292
 a229:=Tryz.isAgg292
 z229:=Tryz.sizeOf292
 v229:=Tryz.zeroValue292}
def akO:Go.Shelf.Ren:=⟨fun|20=>219|n=>n,fun|22=>102|3=>3|4=>4|0=>0|n=>n,fun|n=>n⟩
def apV:Go.Proofs.Lays2.n20 Tryz.prog akO:={
 mixed:=by kernel_rfl
 f20:=Tryz.func219.trans (congrArg some (by kernel_rfl))
 t0:=Tryz.underlying0
 a0:=Tryz.isAgg0
 z0:=Tryz.sizeOf0
 v0:=Tryz.zeroValue0
 t3:=Tryz.underlying3
 a3:=Tryz.isAgg3
 z3:=Tryz.sizeOf3
 v3:=Tryz.zeroValue3
 t4:=Tryz.underlying4
 a4:=Tryz.isAgg4
 z4:=Tryz.sizeOf4
 v4:=Tryz.zeroValue4
 t22:=Tryz.underlying102
 a22:=Tryz.isAgg102
 z22:=Tryz.sizeOf102
 v22:=Tryz.zeroValue102
 i3:=by kernel_rfl}
end Go.Proofs.YtbnkhmoelnfjoaaGreat
namespace Go.Proofs.YtbnkhmoelnfjoaaGreat
open Go.bX Go.Sort
variable {w:World} {b off:Nat} {d:Array Int} {cur:Array Value} {e:TypeId} {xs:List Int}
def I9 (x:Int):∀ys:List Int,(zt x ys).Perm (x::ys)
 | []=>by simp[zt]
 |y::ys=>by
  unfold zt;split
  ·exact .refl _
  ·exact ((I9 x ys).cons y).trans (.swap _ _ _)
def Aa:∀xs:List Int,(lK xs).Perm xs
 | []=>.nil
 |x::xs=>(I9 x _).trans ((Aa xs).cons x)
def M6 (x:Int):∀ys:List Int,ys.Pairwise (· <= ·)->(zt x ys).Pairwise (· <= ·)
 | [],_=>by simp[zt]
 |y::ys,h=>by
  unfold zt;split
  ·rename_i hxy;refine wc.2 ⟨λz hz=> ?_,h⟩
   rcases cH.1 hz with rfl|hz
   ·exact hxy
   ·exact Int.le_trans hxy ((wc.1 h).1 z hz)
  ·rename_i hxy;refine wc.2 ⟨λz hz=> ?_,M6 x ys (wc.1 h).2⟩
   rcases cH.1 ((I9 x ys).mem_iff.1 hz) with rfl|hz
   ·omega
   ·exact (wc.1 h).1 z hz
def IA:∀xs:List Int,(lK xs).Pairwise (· <= ·)
 | []=>.nil
 |x::xs=>M6 x _ (IA xs)
def HL:∀{xs ys:List Int},xs.Pairwise (· <= ·)->ys.Pairwise (· <= ·)->xs.Perm ys->xs=ys
 | [],ys,_,_,h=>by simpa using h.symm
 |x::xs,[],_,_,h=>by simp at h
 |x::xs,y::ys,hx,hy,h=>by
  have h1:=wc.1 hx;have h2:=wc.1 hy;have e:x=y:=by
   have a:x∈y::ys:=h.mem_iff.1 (by simp)
   have b:y∈x::xs:=h.mem_iff.2 (by simp)
   rcases cH.1 a with rfl|a
   ·rfl
   ·rcases cH.1 b with rfl|b
    ·rfl
    ·have:=h2.1 x a;have:=h1.1 y b;omega
  subst e;rw[HL h1.2 h2.2 (List.Perm.cons_inv h)]
def PF (xs:List Int):(xs.mergeSort λx y=>decide (x<=y))=lK xs:=by
 refine HL ?_ (IA xs) ((List.mergeSort_perm xs _).trans (Aa xs).symm);have:=List.pairwise_mergeSort (le:=λx y:Int=>decide (x<=y)) (λa b c=>by simp;omega) (λa b=>by simp;omega) xs
 exact this.imp (by simp)
def tlI:Int->List Int->List Int
 |_,[]=> []
 |x,y::l=>if y=x then tlI y l else y::tlI y l
def awI:∀(l:List Int) (x:Int),((List.range l.length).filter (λj=>Lib.keeps (x::l).toArray (j+1))).map (λj=>(x::l).toArray[j+1]!)=tlI x l
 | [],x=>rfl
 |y::l,x=>by
  have ih:=awI l y;rw[kr,aod,mD,List.filter_map];have e1:((λj=>Lib.keeps (x::y::l).toArray (j+1)) ∘ Nat.succ)=λj=>Lib.keeps (y::l).toArray (j+1):=by
   funext j;simp[Lib.keeps]
  have e2:((λj=>(x::y::l).toArray[j+1]!) ∘ Nat.succ)=λj=>(y::l).toArray[j+1]! :=by
   funext j;simp
  have e3:Lib.keeps (x::y::l).toArray (0+1)= !decide (y=x):=by simp[Lib.keeps]
  rw[e1,e3];show _=(if y=x then tlI y l else y::tlI y l)
  by_cases h:y=x
  ·rw[aH h,rU h,aL (by decide),DR,e2]
   exact ih
  ·rw[aL h,AX h,aH (by decide),jc,DR,e2,ih]
   rfl
def JN (x:Int) (l:List Int):Lib.compact (x::l)=x::tlI x l:=by
 unfold Lib.compact Lib.compactUpTo;rw[kr,aod,mD,aH (by simp[Lib.keeps]),List.filter_map,jc,DR]
 have:=awI l x;rw[<-this];rfl
def Qn:∀xs:List Int,Lib.compact xs=kT xs
 | []=>rfl
 | [x]=>by rw[JN];rfl
 |x::y::l=>by
  have ih:=Qn (y::l);rw[JN] at ih ⊢;show x::(if y=x then tlI y l else y::tlI y l)=(if x=y then kT (y::l) else x::kT (y::l))
  rw[<-ih];by_cases h:y=x
  ·subst h;rw[aH rfl,aH rfl]
  ·rw[aL h,aL (λe=>h e.symm)]
def apq {n:Nat} (h:w.heap[b]? =some (Obj.cells cur e (0,0))):Wr w (putRow (Value.int .i64) (Sort.ahead w n) b off d) b e (putCells (Value.int .i64) off d cur):=by
 have cY:b<w.heap.size:=(nh.1 h).1;refine ⟨?_,?_,λk hk=> ?_,rfl,rfl,rfl⟩
 ·show (w.heap.modify b (onCells (putCells (Value.int .i64) off d)))[b]? =_;rw[Ic,aH rfl,h];rfl
 ·show (w.heap.modify b _).size=_;rw[Array.size_modify]
 ·show (w.heap.modify b _)[k]? =_;rw[Ic,aL (DQ hk)]
def U7 {d:List Int} (hl:off+d.length<=cur.size):(putCells (Value.int .i64) off d.toArray cur).size=cur.size/\(∀t,(t<off\/off+d.length<=t)->(putCells (Value.int .i64) off d.toArray cur)[t]? =cur[t]?)/\∀t x,d[t]? =some x->(putCells (Value.int .i64) off d.toArray cur)[off+t]? =some (.int .i64 x):=by
 refine ⟨by simp[putCells],λt ht=> ?_,λt x hx=> ?_⟩
 ·simp only[putCells,Array.getElem?_mapIdx];have hn:¬(off<=t/\t<off+d.toArray.size):=by simp;omega
  simp only[aL hn];simp
 ·have cY:=(bY.1 hx).1;simp only[putCells,Array.getElem?_mapIdx];rw[nU (by omega),Ib,aH ⟨by omega,by simp;omega⟩]
  have:d.toArray[off+t-off]! =x:=by
   rw[show off+t-off=t by omega,getElem!_pos _ _ (by simpa using cY)]
   simpa[cY] using hx
  rw[this]
def ago (w:World) (os:Array Obj):BY w (Sort.grow w os):=by
 refine ⟨rfl,rfl,rfl,by simp[Sort.grow],λb hb=> ?_⟩
 simp[Sort.grow,Array.getElem?_append,hb]
def holds_of (h:w.heap[b]? =some (.cells cur e (0,0))) (hx:∀t x,xs[t]? =some x->cur[off+t]? =some (.int .i64 x)):Holds (Value.int .i64) w b off xs.toArray:=λj hj=>by
 have hj:j<xs.length:=by simpa using hj
 have:=hx j xs[j] (dI hj);refine ⟨?_,by simp[World.frozen?,h]⟩
 rw[show w.cell? ⟨b,off+j,none⟩=cur[off+j]? by simp[World.cell?,h],this,getElem!_pos _ _ (by simpa using hj)]
 simp
def acy (h0:0<xs.length) (hx:∀t x,xs[t]? =some x->cur[off+t]? =some (.int .i64 x)):off+xs.length<=cur.size:=by
 have:=hx (xs.length-1) _ (dI (by omega))
 have:=(nh.1 this).1;omega
def aoW:QG Tryz.prog 165 true:=by
 refine ⟨⟨_,Tryz.func165,by kernel_rfl,by rw[show Tryz.f165.name= "slices.Sort[[]int,int]" by kernel_rfl];decide⟩,λm w p c=> ?_,λm w b off c xs cur e hb h0 h6 hc hx=> ?_⟩
 ·refine CallsIn.mono (callsIn_wide.2 (Any.slices_Sort_int_none aii p c w)) ?_;rintro e w' ⟨rfl,rfl⟩;exact ⟨rfl,rfl,rfl,rfl,rfl⟩
 ·have cY:b<w.heap.size:=(nh.1 hb).1;refine CallsIn.mono (callsIn_wide.2 (Any.slices_Sort_int aii b off c xs w (holds_of hb hx) cY (by omega))) ?_
  rintro e' w' ⟨rfl,n,os,rfl⟩;rw[PF];have hl:(lK xs).length=xs.length:=(Aa xs).length_eq;obtain ⟨a1,a2,a3⟩:=U7 (d:=lK xs) (by rw[hl];exact acy h0 hx)
  rw[hl] at a2;exact ⟨rfl,_,_,apq hb,ago _ os,a1,a2,a3⟩
def acz:QG Tryz.prog 219 false:=by
 refine ⟨⟨_,Tryz.func219,by kernel_rfl,by rw[show Tryz.f219.name= "slices.Compact[[]int,int]" by kernel_rfl];decide⟩,λm w p c=> ?_,λm w b off c xs cur e hb h0 h6 hc hx=> ?_⟩
 ·refine CallsIn.mono (callsIn_wide.2 (Any.slices_Compact_int_empty apV p c w)) ?_;rintro e w' ⟨rfl,rfl⟩;exact ⟨rfl,rfl,rfl,rfl,rfl⟩
 ·refine CallsIn.mono (callsIn_wide.2 (Any.slices_Compact_int apV b off c xs w (holds_of hb hx) (by omega) hc)) ?_
  rintro e' w' ⟨rfl,n,rfl⟩;rw[Qn];have hle:=JK xs;have hl:(kT xs++List.replicate (xs.length-(kT xs).length) 0).length=xs.length:=by simp;omega
  obtain ⟨a1,a2,a3⟩:=U7 (d:=kT xs++List.replicate (xs.length-(kT xs).length) 0) (by rw[hl];exact acy h0 hx)
  rw[hl] at a2;exact ⟨rfl,_,_,apq hb,⟨rfl,rfl,rfl,dg _,λ_ _=>rfl⟩,a1,a2,a3⟩
end Go.Proofs.YtbnkhmoelnfjoaaGreat
namespace Go.Proofs.YtbnkhmoelnfjoaaGreat
open Go.Lib Go.RowKit Go.bX
variable {P:Program} {rest:List Oper} {o:Oper} {a:Act} {Q:Exit->Act->World->Prop} {v':Value} {w' w:World} {K:Act->World->Prop} {E:Prop} {J:Type} {k:Nat}
def Nd (w:World) (t e:TypeId) (z:Value) (sz:Nat) (ht:P.underlying t=some (.slice e)) (hv:∀w,(zeroValue e).run P w= .ok z w) (hz:z.cells.size=sz) (h1:∀v∈z.cells.toList,v.oneCell'=true) (b o n c:Nat) (hn:0<n) (hc:∀j,j<n*sz->(w.cell? ⟨b,o+j,none⟩).isSome=true) (hf:∀j,j<n*sz->w.frozen? ⟨b,o+j,none⟩=false):
  ∃zs:List Value,zs.length=n*sz/\(∀v∈zs,v.oneCell'=true)/\∀ty,(Builtin.clear_ #[t] ty #[.slice (some ⟨b,o,none⟩) n c]).run P w= .ok (.tuple #[]) (w.setCells b o zs):=by
 have hl:(Builtin.zeroCells z.cells n).toList.length=n*sz:=by simp[Builtin.zeroCells,hz]
 have ta:∀v∈(Builtin.zeroCells z.cells n).toList,v.oneCell'=true:=λv HS=>by
  simp only[Builtin.zeroCells,Array.toList_map,cO] at HS;obtain ⟨i,hi,rfl⟩:=HS;have hi:i<n*z.cells.size:=by simpa using hi
  have hz0:0<z.cells.size:=by
   rcases OE z.cells.size with e|e
   ·rw[e] at hi;simp at hi
   ·exact e
  have cY:i % z.cells.size<z.cells.size:=Nat.mod_lt _ hz0;rw[getElem!_pos z.cells _ cY];exact h1 _ (Array.getElem_mem_toList cY)
 refine ⟨(Builtin.zeroCells z.cells n).toList,hl,ta,λty=> ?_⟩
 have mT:=run_storeCells_cells (P:=P) b o (Builtin.zeroCells z.cells n).toList 0 w (by rw[hl];simpa using hc) (by rw[hl];simpa using hf) ta
 simp only[ng] at mT;obtain ⟨m,rfl⟩:∃m,n=m+1:=⟨n-1,by omega⟩
 simp[Builtin.clear_,run_underlying ht,hv,mT]
def yq (b:Nat) (vs:List Value) (o:Nat) (w:World) (h:∀j,j<vs.length->(w.cell? ⟨b,o+j,none⟩).isSome=true) (k:Nat) (hk:(w.cell? ⟨b,k,none⟩).isSome=true):((w.setCells b o vs).cell? ⟨b,k,none⟩).isSome=true:=by
 by_cases iw:o<=k/\k<o+vs.length
 ·have:=World.cell?_setCells_in b vs o w h (k-o) (by omega)
  rw[show o+(k-o)=k by omega] at this
  rw[this];rfl
 ·rw[World.cell?_setCells_out b vs o w ⟨b,k,none⟩ (λ_ _=>by show k<o\/o+vs.length<=k;omega)]
  exact hk
def lU {b:Nat} {e:TypeId}:∀(vs:List Value) (o:Nat) (w:World) (cur:Array Value),w.heap[b]? =some (.cells cur e (0,0))->o+vs.length<=cur.size->∃iZ,Wr w (w.setCells b o vs) b e iZ/\iZ.size=cur.size/\∀k,iZ[k]? =if o<=k/\k<o+vs.length then vs[k-o]? else cur[k]?
 | [],o,w,cur,hb,hl=>⟨cur,⟨hb,rfl,λ_ _=>rfl,rfl,rfl,rfl⟩,rfl,λk=>by rw[aL (λh=>absurd h.2 (by have:=h.1;show ¬k<o+0;omega))]⟩
 |v::vs,o,w,cur,hb,hl=>by
  have hl:o+(vs.length+1)<=cur.size:=hl;have cY:b<w.heap.size:=(nh.1 hb).1;have h1:(w.setCell ⟨b,o,none⟩ v).heap[b]? =some (.cells (cur.setIfInBounds o v) e (0,0)):=by
   simp[World.setCell,Ic,hb]
  let ⟨iZ,a1,a2,a3⟩:=lU vs (o+1) (w.setCell ⟨b,o,none⟩ v) _ h1 (by simp;omega)
  refine ⟨iZ,⟨a1.heap,a1.size.trans (by simp[World.setCell]),λk hk=>(a1.HN k hk).trans ?_,a1.os,a1.tape,a1.output⟩,by rw[a2];simp,λk=> ?_⟩
  ·simp[World.setCell,Ic,DQ hk]
  ·rw[a3,YV,kr];by_cases hk:o=k
   ·subst hk;rw[aL (by omega),aH rfl,aH (by omega),aH (by omega),nT];rfl
   ·rw[aL hk];by_cases xk:o+1<=k/\k<o+1+vs.length
    ·rw[aH xk,aH (by omega),show k-o=(k-(o+1))+1 by omega,rT]
    ·rw[aL xk,aL (by omega)]
def apI (z:Value) (h:(z.cells.toList.all λv=>v.oneCell')=true):∀v∈z.cells.toList,v.oneCell'=true:=λv hv=>(iJ.1 h) v hv
def i73:TypeInfo:=(Tryz.prog.info? 73).get (by kernel_rfl)
def Jk:Tryz.prog.info? 73=some i73:=by kernel_rfl
def xW:i73.size=2:=by kernel_rfl
set_option maxHeartbeats 4000000 in
set_option maxRecDepth 1000000 in
def aFt (lG off n cap i j:Nat) (cs:List Value) (w:World) (Jp:cs.length=n*2) (hc:∀t v,cs[t]? =some v->w.cell? ⟨lG,off+t,none⟩=some v) (hf:∀t,t<n*2->w.frozen? ⟨lG,off+t,none⟩=false) (h1:∀v∈cs,v.oneCell'=true) (jm:n<=cap) (CJ:i<j) (hj:j<=n):
  Calls Tryz.prog 182 #[.slice (some ⟨lG,off,none⟩) n cap,.int .i64 i,.int .i64 j] w λe w'=>e= .returned (.slice (some ⟨lG,off,none⟩) (n-(j-i)) cap)/\∃zs:List Value,zs.length=(j-i)*2/\(∀v∈zs,v.oneCell'=true)/\w'=(w.drew.setCells lG (off+i*2) (cs.drop (j*2))).setCells lG (off+(i+(n-j))*2) zs:=by
 have heq:¬(i=j):=by omega
 have heq':((i:Int)==(j:Int))=false:=by simp;omega
 obtain ⟨news,sS⟩:∃news,news=cs.drop (j*2):=⟨_,rfl⟩;have hlen:news.length=(n-j)*2:=by rw[sS,iX,Jp,yD]
 obtain ⟨A,hA,Jd⟩:∃A:Addr,(if cap=j then some (⟨lG,off,none⟩:Addr) else some ⟨lG,off+j*2,none⟩)=some A/\Hid (∀t u,news[t]? =some u->w.drew.cell? (A.add t)=some u):=by
  by_cases h:cap=j
  ·refine ⟨⟨lG,off,none⟩,by simp[h],λt u hu=> ?_⟩
   have h0:news.length=0:=by rw[hlen];omega
   rw[wa.1 h0] at hu;simp at hu
  ·refine ⟨⟨lG,off+j*2,none⟩,by simp[h],λt u hu=> ?_⟩
   rw[sS,fa] at hu;rw[Addr.add_lit,show off+j*2+t=off+(j*2+t) by omega]
   exact hc _ _ hu
 have s1:Hid (news.length=(n-j)*2):=hlen;have s2:Hid (∀u∈news,u.oneCell'=true):=λu hu=>h1 u (oE (by rw[<-sS];exact hu))
 have F8:∀t,t<n*2->(w.cell? ⟨lG,off+t,none⟩).isSome=true:=λt ht=>by
  rw[hc t cs[t] (by rw[dI])];rfl
 have s3:Hid (∀t,t<news.length->(w.drew.cell? ⟨lG,off+i*2+t,none⟩).isSome=true/\w.drew.frozen? ⟨lG,off+i*2+t,none⟩=false):=λt ht=>by
  rw[hlen] at ht;rw[fU];exact ⟨F8 (i*2+t) (by omega),hf (i*2+t) (by omega)⟩
 obtain ⟨W1,s9⟩:∃W1,W1=w.drew.setCells lG (off+i*2) news:=⟨_,rfl⟩;have O9:∀t,t<n*2->(W1.cell? ⟨lG,off+t,none⟩).isSome=true:=λt ht=>by
  rw[s9];exact yq lG _ _ _ (λk hk=>(s3 k hk).1) _ (F8 t ht)
 have fz1:∀t,t<n*2->W1.frozen? ⟨lG,off+t,none⟩=false:=λt ht=>by
  rw[s9,World.frozen?_setCells];exact hf t ht
 let ⟨zs,xe,mn,eI⟩:=Nd (P:=Tryz.prog) W1 40 73 _ 2 Tryz.underlying40 Tryz.zeroValue73 (by kernel_rfl) (apI _ (by kernel_rfl)) lG (off+(i+(n-j))*2) (n-(i+(n-j))) (cap-(i+(n-j))) (by omega)
  (λt ht=>by rw[fU];exact O9 _ (by omega)) (λt ht=>by rw[fU];exact fz1 _ (by omega))
 have hic:i<=cap:=by omega
 have hjc:j<=cap:=by omega
 have hW:Hid (W1=w.drew.setCells lG (off+i*2) news):=s9;have hNW:Hid (news=cs.drop (j*2)):=sS;clear s9 sS hlen F8 O9 fz1 hc hf h1;go_enter Tryz.func182,Tryz.ntmps182;go_wp2_with fail;go_region_law (refine step_append_room rfl (.tmp 22) (.tmp 25) 40 rfl 73 i73 2 Tryz.underlying40 Jk xW lG off i cap (by simp[Act.eval,Act.put]) A (n-j) (cap-j) news (by simp[Act.eval,Act.put,hA]) s1.out Jd.out s2.out (by omega) s3.out ?_;rw[<-hW.out])
 go_wp2;go_ret;refine ⟨?_,zs,by rw[xe];congr 1;omega,mn,?_⟩
 ·rw[show n-(j-i)=i+(n-j) by omega];rfl
 ·rw[hW.out,hNW.out]
def avz:anh Tryz.prog 182 2:=by
 refine ⟨⟨_,Tryz.func182,by kernel_rfl,by rw[show Tryz.f182.name= "slices.Delete[[]partsync/api.Column,partsync/api.Column]" by kernel_rfl];decide⟩,λm w b off n c i j cur e hb hl h1 CJ hj uO=>callsIn_wide.2 ?_⟩
 have L4:∀t,w.cell? ⟨b,t,none⟩=cur[t]? :=λt=>tF hb
 have hlen:((cur.toList.drop off).take (n*2)).length=n*2:=by simp;omega
 have mQ:∀t,t<n*2->((cur.toList.drop off).take (n*2))[t]? =cur[off+t]? :=λt ht=>by
  rw[eN,aH ht,fa,lx]
 refine (aFt b off n c i j ((cur.toList.drop off).take (n*2)) w hlen (λt v hv=> ?_) (λt ht=> ?_) (λv hv=> ?_) uO CJ hj).mono ?_
 ·have ht:t<n*2:=by have:=(bY.1 hv).1;rwa[hlen] at this
  rw[L4,<-mQ t ht];exact hv
 ·simp[World.frozen?,hb]
 ·let ⟨t,ht,e⟩:=OC hv;rw[hlen] at ht;refine h1 t ht v ?_;rw[<-mQ t ht,<-e];exact dI _
 ·rintro r w' ⟨rfl,zs,xe,mn,rfl⟩;refine ⟨rfl,?_⟩;have rp:(((cur.toList.drop off).take (n*2)).drop (j*2)).length=(n-j)*2:=by rw[iX,hlen,yD]
  let ⟨c1,a1,a2,a3⟩:=lU (((cur.toList.drop off).take (n*2)).drop (j*2)) (off+i*2) w.drew cur hb (by rw[rp];omega)
  let ⟨c2,b1,b2,b3⟩:=lU zs (off+(i+(n-j))*2) _ c1 a1.heap (by rw[a2,xe];omega)
  refine ⟨c2,⟨b1.heap,b1.size.trans a1.size,λk hk=>(b1.HN k hk).trans (a1.HN k hk),b1.os.trans a1.os,b1.tape.trans a1.tape,b1.output.trans a1.output⟩,b2.trans a2,λk hk=> ?_,λt ht=> ?_,λt ht=> ?_⟩
  ·rw[b3,aL (by rw[xe];omega),a3,aL (by rw[rp];omega)]
  ·rw[b3,aL (by omega),a3,aH (by rw[rp];omega),show off+i*2+t-(off+i*2)=t by omega,fa,mQ _ (by omega),fU]
  ·refine ⟨zs[t]'(by rw[xe];omega),?_,mn _ (rS _)⟩
   rw[b3,aH (by rw[xe];omega),show off+i*2+(n*2-j*2)+t-(off+(i+(n-j))*2)=t by omega]
   exact dI _
def i44:TypeInfo:=(Tryz.prog.info? 44).get (by kernel_rfl)
def hi44:Tryz.prog.info? 44=some i44:=by kernel_rfl
def hs44:i44.size=5:=by kernel_rfl
set_option maxHeartbeats 4000000 in
set_option maxRecDepth 1000000 in
def aFs (lG off n cap i j:Nat) (cs:List Value) (w:World) (Jp:cs.length=n*5) (hc:∀t v,cs[t]? =some v->w.cell? ⟨lG,off+t,none⟩=some v) (hf:∀t,t<n*5->w.frozen? ⟨lG,off+t,none⟩=false) (h1:∀v∈cs,v.oneCell'=true) (jm:n<=cap) (CJ:i<j) (hj:j<=n):
  Calls Tryz.prog 185 #[.slice (some ⟨lG,off,none⟩) n cap,.int .i64 i,.int .i64 j] w λe w'=>e= .returned (.slice (some ⟨lG,off,none⟩) (n-(j-i)) cap)/\∃zs:List Value,zs.length=(j-i)*5/\(∀v∈zs,v.oneCell'=true)/\w'=(w.drew.setCells lG (off+i*5) (cs.drop (j*5))).setCells lG (off+(i+(n-j))*5) zs:=by
 have heq:¬(i=j):=by omega
 have heq':((i:Int)==(j:Int))=false:=by simp;omega
 obtain ⟨news,sS⟩:∃news,news=cs.drop (j*5):=⟨_,rfl⟩;have hlen:news.length=(n-j)*5:=by rw[sS,iX,Jp,yD]
 obtain ⟨A,hA,Jd⟩:∃A:Addr,(if cap=j then some (⟨lG,off,none⟩:Addr) else some ⟨lG,off+j*5,none⟩)=some A/\Hid (∀t u,news[t]? =some u->w.drew.cell? (A.add t)=some u):=by
  by_cases h:cap=j
  ·refine ⟨⟨lG,off,none⟩,by simp[h],λt u hu=> ?_⟩
   have h0:news.length=0:=by rw[hlen];omega
   rw[wa.1 h0] at hu;simp at hu
  ·refine ⟨⟨lG,off+j*5,none⟩,by simp[h],λt u hu=> ?_⟩
   rw[sS,fa] at hu;rw[Addr.add_lit,show off+j*5+t=off+(j*5+t) by omega]
   exact hc _ _ hu
 have s1:Hid (news.length=(n-j)*5):=hlen;have s2:Hid (∀u∈news,u.oneCell'=true):=λu hu=>h1 u (oE (by rw[<-sS];exact hu))
 have F8:∀t,t<n*5->(w.cell? ⟨lG,off+t,none⟩).isSome=true:=λt ht=>by
  rw[hc t cs[t] (by rw[dI])];rfl
 have s3:Hid (∀t,t<news.length->(w.drew.cell? ⟨lG,off+i*5+t,none⟩).isSome=true/\w.drew.frozen? ⟨lG,off+i*5+t,none⟩=false):=λt ht=>by
  rw[hlen] at ht;rw[fU];exact ⟨F8 (i*5+t) (by omega),hf (i*5+t) (by omega)⟩
 obtain ⟨W1,s9⟩:∃W1,W1=w.drew.setCells lG (off+i*5) news:=⟨_,rfl⟩;have O9:∀t,t<n*5->(W1.cell? ⟨lG,off+t,none⟩).isSome=true:=λt ht=>by
  rw[s9];exact yq lG _ _ _ (λk hk=>(s3 k hk).1) _ (F8 t ht)
 have fz1:∀t,t<n*5->W1.frozen? ⟨lG,off+t,none⟩=false:=λt ht=>by
  rw[s9,World.frozen?_setCells];exact hf t ht
 let ⟨zs,xe,mn,eI⟩:=Nd (P:=Tryz.prog) W1 23 44 _ 5 Tryz.underlying23 Tryz.zeroValue44 (by kernel_rfl) (apI _ (by kernel_rfl)) lG (off+(i+(n-j))*5) (n-(i+(n-j))) (cap-(i+(n-j))) (by omega)
  (λt ht=>by rw[fU];exact O9 _ (by omega)) (λt ht=>by rw[fU];exact fz1 _ (by omega))
 have hic:i<=cap:=by omega
 have hjc:j<=cap:=by omega
 have hW:Hid (W1=w.drew.setCells lG (off+i*5) news):=s9;have hNW:Hid (news=cs.drop (j*5)):=sS;clear s9 sS hlen F8 O9 fz1 hc hf h1;go_enter Tryz.func185,Tryz.ntmps185;go_wp2_with fail;go_region_law (refine step_append_room rfl (.tmp 22) (.tmp 25) 23 rfl 44 i44 5 Tryz.underlying23 hi44 hs44 lG off i cap (by simp[Act.eval,Act.put]) A (n-j) (cap-j) news (by simp[Act.eval,Act.put,hA]) s1.out Jd.out s2.out (by omega) s3.out ?_;rw[<-hW.out])
 go_wp2;go_ret;refine ⟨?_,zs,by rw[xe];congr 1;omega,mn,?_⟩
 ·rw[show n-(j-i)=i+(n-j) by omega];rfl
 ·rw[hW.out,hNW.out]
def avy:anh Tryz.prog 185 5:=by
 refine ⟨⟨_,Tryz.func185,by kernel_rfl,by rw[show Tryz.f185.name= "slices.Delete[[]partsync/api.Table,partsync/api.Table]" by kernel_rfl];decide⟩,λm w b off n c i j cur e hb hl h1 CJ hj uO=>callsIn_wide.2 ?_⟩
 have L4:∀t,w.cell? ⟨b,t,none⟩=cur[t]? :=λt=>tF hb
 have hlen:((cur.toList.drop off).take (n*5)).length=n*5:=by simp;omega
 have mQ:∀t,t<n*5->((cur.toList.drop off).take (n*5))[t]? =cur[off+t]? :=λt ht=>by
  rw[eN,aH ht,fa,lx]
 refine (aFs b off n c i j ((cur.toList.drop off).take (n*5)) w hlen (λt v hv=> ?_) (λt ht=> ?_) (λv hv=> ?_) uO CJ hj).mono ?_
 ·have ht:t<n*5:=by have:=(bY.1 hv).1;rwa[hlen] at this
  rw[L4,<-mQ t ht];exact hv
 ·simp[World.frozen?,hb]
 ·let ⟨t,ht,e⟩:=OC hv;rw[hlen] at ht;refine h1 t ht v ?_;rw[<-mQ t ht,<-e];exact dI _
 ·rintro r w' ⟨rfl,zs,xe,mn,rfl⟩;refine ⟨rfl,?_⟩;have rp:(((cur.toList.drop off).take (n*5)).drop (j*5)).length=(n-j)*5:=by rw[iX,hlen,yD]
  let ⟨c1,a1,a2,a3⟩:=lU (((cur.toList.drop off).take (n*5)).drop (j*5)) (off+i*5) w.drew cur hb (by rw[rp];omega)
  let ⟨c2,b1,b2,b3⟩:=lU zs (off+(i+(n-j))*5) _ c1 a1.heap (by rw[a2,xe];omega)
  refine ⟨c2,⟨b1.heap,b1.size.trans a1.size,λk hk=>(b1.HN k hk).trans (a1.HN k hk),b1.os.trans a1.os,b1.tape.trans a1.tape,b1.output.trans a1.output⟩,b2.trans a2,λk hk=> ?_,λt ht=> ?_,λt ht=> ?_⟩
  ·rw[b3,aL (by rw[xe];omega),a3,aL (by rw[rp];omega)]
  ·rw[b3,aL (by omega),a3,aH (by rw[rp];omega),show off+i*5+t-(off+i*5)=t by omega,fa,mQ _ (by omega),fU]
  ·refine ⟨zs[t]'(by rw[xe];omega),?_,mn _ (rS _)⟩
   rw[b3,aH (by rw[xe];omega),show off+i*5+(n*5-j*5)+t-(off+(i+(n-j))*5)=t by omega]
   exact dI _
def LY (w:World) (dT sT ty elem:TypeId) (i:TypeInfo) (sz:Nat) (b o dLen dCap:Nat) (a:Addr) (atr sCap k:Nat) (cs:List Value) (hu:P.underlying dT=some (.slice elem)) (hi:P.info? elem=some i) (hs:i.size=sz) (hk:Nat.min atr dLen=k) (hn:cs.length=k*sz) (Jd:∀j v,cs[j]? =some v->w.cell? (a.add j)=some v) (hc:∀j,j<cs.length->(w.cell? ⟨b,o+j,none⟩).isSome=true) (hf:∀j,j<cs.length->w.frozen? ⟨b,o+j,none⟩=false) (h1:∀v∈cs,v.oneCell'=true):
  (Builtin.copy_ #[dT,sT] ty #[.slice (some ⟨b,o,none⟩) dLen dCap,.slice (some a) atr sCap]).run P w= .ok (goInt k) (w.setCells b o cs):=by
 subst hs;have hfc:=run_firstCells_some (P:=P) w i.size k a atr sCap cs hn Jd;have mT:=run_storeCells_cells (P:=P) b o cs 0 w (by simpa using hc) (by simpa using hf) h1
 simp only[ng] at mT;simp[Builtin.copy_,run_underlying hu,Builtin.lenOf,sizeOf,typeInfo,hi,hk,hfc,mT]
def wpC (w:World) {ops:Array Oper} (hgd:o.guard=none) (d s:Operand) (t t':TypeId) (ho:o.op= .call {callee:=.builtin .copy,args:= #[d,s],argTypes:= #[t,t']}) (v u:Value) (hd:a.eval d=v) (hs:a.eval s=u) (hr:(Builtin.copy_ #[t,t'] o.type #[v,u]).run P w= .ok v' w') (h:wpList P ops Q rest (a.put o.dst v') w'):wpList P ops Q (o::rest) a w:=
 wpList_plain hgd λ_ hK=>by
  unfold Oper.wp execOp;simp only[ho,resolve,invoke,builtin,Sem.run_bind,Sem.run_pure,Result.andThen_ok,List.map_toArray,jc,uE,hd,hs,hr];exact hK _ _ h
def awL {ops:Array Oper} (hg:o.guard=none) (d x:Operand) (dT sT:TypeId) (eT:o.op=Op.call {callee:=Callee.builtin Builtin.copy,args:= #[d,x],argTypes:= #[dT,sT]}) (v u:Value) (hd:a.eval d=v) (hx:a.eval x=u) (hr:(Builtin.copy_ #[dT,sT] o.type #[v,u]).run P w= .ok v' w') (hK:K (a.put o.dst v') w'):
  if Region.wanted o (yielded ops a.tmps)=true then Oper.wp P o a w K Q else E:=by
 have hw:Region.wanted o (yielded ops a.tmps)=true:=by simp[Region.wanted,hg]
 rw[aH hw];unfold Oper.wp;simp[execOp,eT,resolve,invoke,builtin,hd,hx,hr,Result.andThen];exact hK
structure adw (w:World) (b off n c vb ju q vc:Nat) (cs vs:List Value):Prop where
 cl:cs.length=n*2
 vl:vs.length=q*2
 hc:∀j v,cs[j]? =some v->w.cell? ⟨b,off+j,none⟩=some v
 hv:∀j v,vs[j]? =some v->w.cell? ⟨vb,ju+j,none⟩=some v
 sp:∀j,j<c*2->(w.cell? ⟨b,off+j,none⟩).isSome=true
 fz:∀j,j<c*2->w.frozen? ⟨b,off+j,none⟩=false
 h1:∀v∈cs,v.oneCell'=true
 h2:∀v∈vs,v.oneCell'=true
set_option maxHeartbeats 4000000 in
set_option maxRecDepth 1000000 in
def abt (b off n c vb ju q vc:Nat) (cs vs:List Value) (w:World) (I:adw w b off n c vb ju q vc cs vs) (hq:0<q) (my:n+q<=c):
  Calls Tryz.prog 184 #[.slice (some ⟨b,off,none⟩) n c,.int .i64 n,.slice (some ⟨vb,ju,none⟩) q vc] w λe w'=>e= .returned (.slice (some ⟨b,off,none⟩) (n+q) c)/\w'=w.setCells b (off+n*2) vs:=by
 have xe:¬((q:Int)=0):=by omega
 have ln:∀ty,(Builtin.append_ #[40,40] ty #[.slice (some ⟨b,off,none⟩) n c,.slice (some ⟨vb,ju,none⟩) q vc]).run Tryz.prog w= .ok (.slice (some ⟨b,off,none⟩) (n+q) c) (w.setCells b (off+n*2) vs):=λty=>by
  have h:=run_append_room_cells (P:=Tryz.prog) w 40 ty 73 i73 Tryz.underlying40 Jk b off n c ⟨vb,ju,none⟩ q vc vs (by rw[I.vl,xW]) (λj u hj=>by rw[Addr.add_lit];exact I.hv j u hj) I.h2 my
   (λj hj=>by rw[xW,fU];rw[I.vl] at hj;exact I.sp _ (by omega)) (λj hj=>by rw[xW,fU];rw[I.vl] at hj;exact I.fz _ (by omega))
  rw[xW] at h;exact h
 clear I;go_enter Tryz.func184,Tryz.ntmps184;go_wp2_with (at_builtin;refine Lib.wpList_append_run _ rfl _ _ _ _ rfl _ _ rfl rfl _ _ (ln _) ?_);go_ret;exact ⟨rfl,rfl⟩
def z73:i73.zero=some i73.zero.get! :=by kernel_rfl
def b73:i73.bytes=24:=by kernel_rfl
def asR:(i73.zero.get!).cells.size=2:=by kernel_rfl
set_option maxHeartbeats 4000000 in
set_option maxRecDepth 1000000 in
def abu (b off n c vb ju q vc:Nat) (cs vs:List Value) (w:World) (I:adw w b off n c vb ju q vc cs vs) (hq:0<q) (my:c<n+q) (xh:n<=1000000) (hq6:q<=1000000) (uO:n<=c):
  Calls Tryz.prog 184 #[.slice (some ⟨b,off,none⟩) n c,.int .i64 n,.slice (some ⟨vb,ju,none⟩) q vc] w λe w'=>∃G,e= .returned (.slice (some ⟨w.heap.size,0,none⟩) (n+q) G)/\n+q<=G/\∃iZ:Array Value,G*2<=iZ.size/\(∀t,t<(n+q)*2->iZ[t]? =(cs++vs)[t]?)/\Nw w w' 73 iZ:=by
 have xe:¬((q:Int)=0):=by omega
 have Jd:Src Tryz.prog i73.size 40 (.slice (some ⟨vb,ju,none⟩) q vc) q vs w:=by
  rw[xW];exact Src.ofSlice w Tryz.underlying40 ⟨vb,ju,none⟩ q vc vs I.vl (λj u hj=>by rw[Addr.add_lit];exact I.hv j u hj) I.h2
 have hold:(Builtin.firstCells i73.size n (.slice (some ⟨b,off,none⟩) n c)).run Tryz.prog w.drew= .ok cs.toArray w.drew:=by
  rw[xW];exact run_firstCells_some w.drew 2 n ⟨b,off,none⟩ n c cs I.cl (λj v hj=>by rw[Addr.add_lit];exact I.hc j v hj)
 obtain ⟨G,hG⟩:∃G,G=grownCap w (n+q) c 73:=⟨_,rfl⟩;obtain ⟨cur,DB⟩:∃cur:Array Value,cur=(cs++vs).toArray++Builtin.zeroCells (i73.zero.get!).cells (G-(n+q)):=⟨_,rfl⟩;have hGe:n+q<=G:=by rw[hG];exact grownCap_ge w _ _ _
 have mH:cur.size=G*2:=by
  rw[DB];simp[Builtin.zeroCells,asR,I.cl,I.vl];omega
 have mQ:∀t,t<(n+q)*2->cur[t]? =(cs++vs)[t]? :=λt ht=>by
  rw[DB,Ia (by simp[I.cl,I.vl];omega),H9]
 have ln:∀ty,(Builtin.append_ #[40,40] ty #[.slice (some ⟨b,off,none⟩) n c,.slice (some ⟨vb,ju,none⟩) q vc]).run Tryz.prog w= .ok (.slice (some ⟨w.heap.size,0,none⟩) (n+q) G) (w.drew.alloc (.cells cur 73)):=λty=>by
  have h:=run_append_grow_src w 40 40 ty 73 i73 _ Tryz.underlying40 Jk z73 (some ⟨b,off,none⟩) n c cs hold _ q vs Jd my (by omega) (growslice_fits my (by rw[b73];omega))
  rw[<-hG,<-DB] at h;exact h
 clear I hold Jd hG DB;go_enter Tryz.func184,Tryz.ntmps184;go_wp2_with (at_builtin;refine Lib.wpList_append_run _ rfl _ _ _ _ rfl _ _ rfl rfl _ _ (ln _) ?_);all_goals (go_ret;exact ⟨G,rfl,hGe,cur,by omega,mQ,⟨rfl,rfl,rfl,rfl⟩⟩)
set_option maxHeartbeats 4000000 in
set_option maxRecDepth 1000000 in
def arh (b off n c i vb ju q vc:Nat) (cs vs:List Value) (w:World) (I:adw w b off n c vb ju q vc cs vs) (hi:i<n) (hq:0<q) (my:n+q<=c) (hvb:vb≠b) (xh:n<=1000000) (hq6:q<=1000000)
  (tA tB:TypeId) (kA kB:Nat) (hsa:w.shape? vb=some (tA,kA)) (hsb:w.shape? b=some (tB,kB)) (hkB:kB≠0) (hfa:w.frozen? ⟨vb,ju,none⟩=false) (hfe:w.frozen? ⟨vb,kA,none⟩=false):
  Calls Tryz.prog 184 #[.slice (some ⟨b,off,none⟩) n c,.int .i64 i,.slice (some ⟨vb,ju,none⟩) q vc] w λe w'=>e= .returned (.slice (some ⟨b,off,none⟩) (n+q) c)/\w'=(w.drew.setCells b (off+(i+q)*2) (cs.drop (i*2))).setCells b (off+i*2) vs:=by
 have xe:¬((q:Int)=0):=by omega
 have mn:¬((i:Int)=(n:Int)):=by omega
 have hz3:¬((c:Int)<(n:Int)+(q:Int)):=by omega
 have hov:∀lb cb,(callFunc 199 #[.slice (some ⟨vb,ju,none⟩) q vc,.slice (some ⟨b,off+(i+q)*2,none⟩) lb cb]).run Tryz.prog w= .ok (.value (.bool false)) w:=λlb cb=>by
  rw[run_callFunc_extern Tryz.func199 (by kernel_rfl) (by kernel_rfl) (by kernel_rfl) (e:=Extern.SlicesOverlaps.overlaps #[40,40] #[4]) (by kernel_rfl),
   Lib.run_overlaps_apart w 40 4 73 Tryz.underlying40 2 Tryz.sizeOf73 ⟨vb,ju,none⟩ ⟨b,off+(i+q)*2,none⟩ q vc lb cb hvb tA tB kA kB hsa hsb hkB hfa hfe]
  rfl
 have rp:(cs.drop (i*2)).length=(n-i)*2:=by rw[iX,I.cl,yD]
 have hw1:IntKind.i64.wrap ((i:Int)+(q:Int))=(i:Int)+(q:Int):=by rw[IntKind.wrap_i64];omega
 have hw2:IntKind.i64.wrap ((n:Int)+(q:Int))=(n:Int)+(q:Int):=by rw[IntKind.wrap_i64];omega
 have Jt:(0:Int)<=(i:Int)+(q:Int):=by omega
 have iw:i<=n:=by omega
 have htn:((i:Int)+(q:Int)).toNat=i+q:=by omega
 have EO:¬(c=i+q):=by omega
 have hb3:(i:Int)<=(n:Int)+(q:Int):=by omega
 have hb4:¬(c=i):=by omega
 have hcp1:∀ty dc sc,(Builtin.copy_ #[40,40] ty #[.slice (some ⟨b,off+(i+q)*2,none⟩) (n+q-(i+q)) dc,.slice (some ⟨b,off+i*2,none⟩) (n+q-i) sc]).run Tryz.prog w.drew= .ok (goInt (n-i:Nat)) (w.drew.setCells b (off+(i+q)*2) (cs.drop (i*2))):=λty dc sc=>
  LY w.drew 40 40 ty 73 i73 2 b (off+(i+q)*2) (n+q-(i+q)) dc ⟨b,off+i*2,none⟩ (n+q-i) sc (n-i) (cs.drop (i*2)) Tryz.underlying40 Jk xW (by simp only[OB];split<;>omega) rp
   (λj v hj=>by rw[Addr.add_lit,fU];exact I.hc (i*2+j) v (by rwa[fa] at hj))
   (λj hj=>by rw[rp] at hj;rw[fU];exact I.sp _ (by omega)) (λj hj=>by rw[rp] at hj;rw[fU];exact I.fz _ (by omega)) (λv hv=>I.h1 v (oE hv))
 obtain ⟨W1,s9⟩:∃W1,W1=w.drew.setCells b (off+(i+q)*2) (cs.drop (i*2)):=⟨_,rfl⟩;have hsp1:∀k,k<c*2->(W1.cell? ⟨b,off+k,none⟩).isSome=true:=λk hk=>by
  rw[s9];exact yq b _ _ _ (λj hj=>by rw[rp] at hj;rw[fU];exact I.sp _ (by omega)) _ (I.sp k hk)
 have hcp2:∀ty dc,(Builtin.copy_ #[40,40] ty #[.slice (some ⟨b,off+i*2,none⟩) (n+q-i) dc,.slice (some ⟨vb,ju,none⟩) q vc]).run Tryz.prog W1= .ok (goInt (q:Nat)) (W1.setCells b (off+i*2) vs):=λty dc=>
  LY W1 40 40 ty 73 i73 2 b (off+i*2) (n+q-i) dc ⟨vb,ju,none⟩ q vc q vs Tryz.underlying40 Jk xW (by simp only[OB];split<;>omega) I.vl
   (λj v hj=>by
    rw[Addr.add_lit,s9,World.cell?_setCells_out b _ _ _ _ (λh _=>absurd h hvb)]
    exact I.hv j v hj)
   (λj hj=>by rw[I.vl] at hj;rw[fU];exact hsp1 _ (by omega)) (λj hj=>by rw[I.vl] at hj;rw[s9,World.frozen?_setCells,fU];exact I.fz _ (by omega)) I.h2
 rw[<-s9] at hcp1;have hW:Hid (W1=w.drew.setCells b (off+(i+q)*2) (cs.drop (i*2))):=s9;clear I hsp1 rp s9;go_enter Tryz.func184,Tryz.ntmps184;go_wp2_with (simp only[hov]);go_region_law (refine awL rfl _ _ 40 40 rfl _ _ (by simp[Act.eval,Act.put]) (by simp[Act.eval,Act.put]) (hcp1 _ _ _) ?_)
 go_wp2_with (at_builtin;refine wpC _ rfl _ _ 40 40 rfl _ _ rfl rfl (hcp2 _ _) ?_);go_ret;exact ⟨rfl,by rw[hW.out]⟩
set_option maxHeartbeats 4000000 in
set_option maxRecDepth 1000000 in
def auf (b off n c i vb ju q vc:Nat) (cs vs:List Value) (w:World) (I:adw w b off n c vb ju q vc cs vs) (hi:i<n) (hq:0<q) (my:c<n+q) (xh:n<=1000000) (hq6:q<=1000000) (uO:n<=c) (hbw:b<w.heap.size) (hvw:vb<w.heap.size):
  Calls Tryz.prog 184 #[.slice (some ⟨b,off,none⟩) n c,.int .i64 i,.slice (some ⟨vb,ju,none⟩) q vc] w λe w'=>∃G,e= .returned (.slice (some ⟨w.heap.size,0,none⟩) (n+q) G)/\n+q<=G/\∃wV:Array Value,wV.size=G*2/\(∀t,t<i*2->wV[t]? =cs[t]?)/\w'=((w.drew.alloc (.cells wV 73)).setCells w.heap.size (i*2) vs).drew.setCells w.heap.size ((i+q)*2) (cs.drop (i*2)):=by
 have xe:¬((q:Int)=0):=by omega
 have mn:¬((i:Int)=(n:Int)):=by omega
 have hz3:(c:Int)<(n:Int)+(q:Int):=by omega
 have hkk:(n:Int)+(q:Int)-(i:Int)=((n+q-i:Nat):Int):=by omega
 have hik:i+(n+q-i)=n+q:=by omega
 have hold:(Builtin.firstCells i73.size i (.slice (some ⟨b,off,none⟩) i c)).run Tryz.prog w.drew= .ok (cs.take (i*2)).toArray w.drew:=by
  rw[xW];exact run_firstCells_some w.drew 2 i ⟨b,off,none⟩ i c (cs.take (i*2)) (by rw[dR,I.cl];omega) (λj v hj=>by
   rw[Addr.add_lit];rw[eN] at hj;split at hj
   ·exact I.hc j v hj
   ·cases hj)
 obtain ⟨G,hG⟩:∃G,G=grownCap w (n+q) c 73:=⟨_,rfl⟩;obtain ⟨wV,alp⟩:∃wV:Array Value,wV=(cs.take (i*2)).toArray++Builtin.zeroCells (i73.zero.get!).cells (n+q-i)++Builtin.zeroCells (i73.zero.get!).cells (G-(n+q)):=⟨_,rfl⟩;have hrz:∀ty,(Builtin.append_ #[40,3] ty #[.slice (some ⟨b,off,none⟩) i c,.int .i64 ((n:Int)+(q:Int)-(i:Int))]).run Tryz.prog w= .ok (.slice (some ⟨w.heap.size,0,none⟩) (n+q) G) (w.drew.alloc (.cells wV 73)):=λty=>by
  have h:=Lib.run_append_grow_zeros w 40 3 ty 73 i73 _ .i64 .i64 Tryz.underlying40 Tryz.underlying3 Jk z73 (some ⟨b,off,none⟩) i c (cs.take (i*2)) hold (n+q-i) (by omega) (by rw[xW];omega) (by omega) (by omega) (by rw[b73];omega) (by rw[b73,hik];exact growslice_fits my (by omega))
  rw[hik,<-hG,<-alp] at h;rw[hkk];exact h
 have hGn:n+q<=G:=by rw[hG];exact grownCap_ge w _ _ _
 have hRl:wV.size=G*2:=by
  rw[alp];simp[Builtin.zeroCells,asR,I.cl];omega
 have hRg:∀t,t<i*2->wV[t]? =cs[t]? :=λt ht=>by
  rw[alp,Ia (by simp[Builtin.zeroCells,asR,I.cl];omega),Ia (by simp[I.cl];omega),H9,eN,aH ht]
 obtain ⟨W1,s9⟩:∃W1,W1=w.drew.alloc (.cells wV 73):=⟨_,rfl⟩;have hN:∀j,j<G*2->(W1.cell? ⟨w.heap.size,j,none⟩).isSome=true:=λj hj=>by
  rw[s9,World.cell?_alloc_at (w:=w.drew) wV _ w.heap.size j rfl,nU (by omega)];rfl
 have hNf:∀j,W1.frozen? ⟨w.heap.size,j,none⟩=false:=λj=>by rw[s9];exact World.frozen?_alloc_at (w:=w.drew) wV _ w.heap.size j rfl
 have hOb:∀j v,w.cell? ⟨b,j,none⟩=some v->W1.cell? ⟨b,j,none⟩=some v:=λj v h=>by rw[s9,World.cell?_alloc_past (w:=w.drew) _ b j hbw];exact h
 have hOv:∀j v,w.cell? ⟨vb,j,none⟩=some v->W1.cell? ⟨vb,j,none⟩=some v:=λj v h=>by rw[s9,World.cell?_alloc_past (w:=w.drew) _ vb j hvw];exact h
 have hG63:G<=9223372036854775807:=by
  have:=grownCap_le_maxLen w (n+q) c 73 (by unfold maxLen;omega)
  rw[<-hG] at this;unfold maxLen at this;omega
 have hcpA:∀(W:World),(∀x,W.cell? x=W1.cell? x)->(∀x,W.frozen? x=W1.frozen? x)->∀ty dc,(Builtin.copy_ #[40,40] ty #[.slice (some ⟨w.heap.size,i*2,none⟩) (n+q-i) dc,.slice (some ⟨vb,ju,none⟩) q vc]).run Tryz.prog W= .ok (goInt (q:Nat)) (W.setCells w.heap.size (i*2) vs):=λW hWc hWf ty dc=>
  LY W 40 40 ty 73 i73 2 w.heap.size (i*2) (n+q-i) dc ⟨vb,ju,none⟩ q vc q vs Tryz.underlying40 Jk xW (by simp only[OB];split<;>omega) I.vl
   (λj v hj=>by rw[Addr.add_lit,hWc];exact hOv _ v (I.hv j v hj))
   (λj hj=>by rw[hWc];rw[I.vl] at hj;exact hN _ (by omega)) (λj hj=>by rw[hWf];exact hNf _) I.h2
 have hbN:b≠w.heap.size:=by omega
 have rp:(cs.drop (i*2)).length=(n-i)*2:=by rw[iX,I.cl,yD]
 have hcpB:∀(W:World),(∀x,W.cell? x=(W1.setCells w.heap.size (i*2) vs).cell? x)->(∀x,W.frozen? x=(W1.setCells w.heap.size (i*2) vs).frozen? x)->∀ty dc sc,(Builtin.copy_ #[40,40] ty #[.slice (some ⟨w.heap.size,(i+q)*2,none⟩) (n+q-(i+q)) dc,.slice (some ⟨b,off+i*2,none⟩) (n-i) sc]).run Tryz.prog W= .ok (goInt (n-i:Nat)) (W.setCells w.heap.size ((i+q)*2) (cs.drop (i*2))):=λW hWc hWf ty dc sc=>
  LY W 40 40 ty 73 i73 2 w.heap.size ((i+q)*2) (n+q-(i+q)) dc ⟨b,off+i*2,none⟩ (n-i) sc (n-i) (cs.drop (i*2)) Tryz.underlying40 Jk xW (by simp only[OB];split<;>omega) rp
   (λj v hj=>by
    rw[Addr.add_lit,hWc,World.cell?_setCells_out _ _ _ _ _ (λh _=>absurd h hbN),fU]
    exact hOb _ v (I.hc (i*2+j) v (by rwa[fa] at hj)))
   (λj hj=>by rw[rp] at hj;rw[hWc];exact yq _ _ _ _ (λt ht=>by rw[I.vl] at ht;exact hN _ (by omega)) _ (hN _ (by omega)))
   (λj hj=>by rw[hWf,World.frozen?_setCells];exact hNf _) (λv hv=>I.h1 v (oE hv))
 have hGi:¬(G=i):=by omega
 have hGim:¬(G=i+q):=by omega
 have xm:¬(c=i):=by omega
 have hw1:IntKind.i64.wrap ((i:Int)+(q:Int))=(i:Int)+(q:Int):=by rw[IntKind.wrap_i64];omega
 have Jt:(0:Int)<=(i:Int)+(q:Int):=by omega
 have iw:i<=n:=by omega
 have htn:((i:Int)+(q:Int)).toNat=i+q:=by omega
 have hb3:(i:Int)<=(n:Int):=by omega
 rw[<-s9] at hrz;have hW:Hid (W1=w.drew.alloc (.cells wV 73)):=s9;have hA:=λty dc=>hcpA W1 (λ_=>rfl) (λ_=>rfl) ty dc
 obtain ⟨W2,hW2⟩:∃W2,W2=W1.setCells w.heap.size (i*2) vs:=⟨_,rfl⟩;rw[<-hW2] at hA;have hB:=λty dc sc=>hcpB W2.drew (λ_=>by rw[hW2];rfl) (λ_=>by rw[hW2];rfl) ty dc sc
 have hW2':Hid (W2=W1.setCells w.heap.size (i*2) vs):=hW2;clear hkk hik hold alp hG I hN hNf hOb hOv hcpA hcpB rp s9 hW2 hbw hvw;go_enter Tryz.func184,Tryz.ntmps184;go_wp2_with (first
  |(at_builtin;refine Lib.wpList_append_run _ rfl _ _ _ _ rfl _ _ rfl rfl _ _ (hrz _) ?_)
  |(at_builtin;refine wpC _ rfl _ _ 40 40 rfl _ _ rfl rfl (hA _ _) ?_))
 go_region_law (refine awL rfl _ _ 40 40 rfl (.slice (some ⟨w.heap.size,(i+q)*2,none⟩) (n+q-(i+q)) (G-(i+q))) (.slice (some ⟨b,off+i*2,none⟩) (n-i) (c-i)) (by simp[Act.eval,Act.put]) (by simp[Act.eval,Act.put]) (hB 3 (G-(i+q)) (c-i)) ?_)
 go_wp2;go_ret;exact ⟨G,rfl,hGn,wV,hRl,hRg,by rw[hW2'.out,hW.out]⟩
def aCk {xs ys:List J} (hk:k<=xs.length) (t:Nat):(zu xs k ys)[t]? =if t<k then xs[t]? else if t<k+ys.length then ys[t-k]? else xs[t-ys.length]? :=by
 show (xs.take k++(ys++xs.drop k))[t]? =_;rw[qH,dR,fB hk];by_cases q1:t<k
 ·rw[aH q1,aH q1,eN,aH q1]
 ·rw[aL q1,aL q1,qH];by_cases q2:t<k+ys.length
  ·rw[aH (by omega),aH q2]
  ·rw[aL (by omega),aL q2,fa]
   congr 1;omega
def aug:azj Tryz.prog 184 73 2:=by
 refine ⟨⟨_,Tryz.func184,by kernel_rfl,by rw[show Tryz.f184.name= "slices.Insert[[]partsync/api.Column,partsync/api.Column]" by kernel_rfl];decide⟩,λm w b off n c i vb ju q vc cur G1 ev hb hvb cZ Jp wB h1 h2 uO xh hq hq6 iw=>callsIn_wide.2 ?_⟩
 have L4:∀t,w.cell? ⟨b,t,none⟩=cur[t]? :=λt=>tF hb
 have aKS:∀t,w.cell? ⟨vb,t,none⟩=G1[t]? :=λt=>tF hvb
 obtain ⟨cs,auM⟩:∃cs,cs=(cur.toList.drop off).take (n*2):=⟨_,rfl⟩;obtain ⟨vs,auz⟩:∃vs,vs=(G1.toList.drop ju).take (q*2):=⟨_,rfl⟩;have lc:cs.length=n*2:=by rw[auM];simp;omega
 have lv:vs.length=q*2:=by rw[auz];simp;omega
 have gc:∀t,t<n*2->cs[t]? =cur[off+t]? :=λt ht=>by rw[auM,eN,aH ht,fa,lx]
 have gv:∀t,t<q*2->vs[t]? =G1[ju+t]? :=λt ht=>by rw[auz,eN,aH ht,fa,lx]
 have I:adw w b off n c vb ju q vc cs vs:=by
  refine ⟨lc,lv,λt v hv=> ?_,λt v hv=> ?_,λt ht=> ?_,λt ht=> ?_,λv hv=> ?_,λv hv=> ?_⟩
  ·have ht:t<n*2:=by have:=(bY.1 hv).1;rwa[lc] at this
   rw[L4,<-gc t ht];exact hv
  ·have ht:t<q*2:=by have:=(bY.1 hv).1;rwa[lv] at this
   rw[aKS,<-gv t ht];exact hv
  ·rw[L4,nU (by omega)];rfl
  ·simp[World.frozen?,hb]
  ·let ⟨t,ht,e⟩:=OC hv;rw[lc] at ht;refine h1 t ht v ?_;rw[<-gc t ht,<-e];exact dI _
  ·let ⟨t,ht,e⟩:=OC hv;rw[lv] at ht;refine h2 t ht v ?_;rw[<-gv t ht,<-e];exact dI _
 rw[<-auM,<-auz];have G:∀t,(zu cs (i*2) vs)[t]? =if t<i*2 then cs[t]? else if t<i*2+q*2 then vs[t-i*2]? else cs[t-q*2]? :=λt=>by
  rw[aCk (by rw[lc];omega),lv]
 rcases Nat.eq_or_lt_of_le iw with rfl|cY
 ·by_cases my:i+q<=c
  ·refine (abt b off i c vb ju q vc cs vs w I hq my).mono ?_;rintro r w' ⟨rfl,rfl⟩;let ⟨c1,a1,a2,a3⟩:=lU vs (off+i*2) w cur hb (by rw[lv];omega)
   refine ⟨b,off,c,c1,rfl,my,by rw[a2];exact Jp,λt ht=> ?_,.inl ⟨rfl,rfl,a1⟩⟩
   rw[G,a3,lv];by_cases q1:t<i*2
   ·rw[aL (by omega),aH q1,gc t q1]
   ·rw[aH (by omega),aL q1,aH (by omega),show off+t-(off+i*2)=t-i*2 by omega]
  ·refine (abu b off i c vb ju q vc cs vs w I hq (by omega) xh hq6 uO).mono ?_
   rintro r w' ⟨G',rfl,hG,c1,mH,mQ,hw⟩;refine ⟨w.heap.size,0,G',c1,rfl,hG,by omega,λt ht=> ?_,.inr ⟨rfl,rfl,hw⟩⟩
   rw[G,cA,mQ t ht,qH,lc];by_cases q1:t<i*2
   ·rw[aH q1,aH q1]
   ·rw[aL q1,aL q1,aH (by omega)]
 ·have hld:(cs.drop (i*2)).length=(n-i)*2:=by rw[iX,lc,yD]
  by_cases my:n+q<=c
  ·refine (arh b off n c i vb ju q vc cs vs w I cY hq my cZ xh hq6 ev 73 G1.size cur.size (by simp[World.shape?,hvb]) (by simp[World.shape?,hb]) (by omega) (by simp[World.frozen?,hvb]) (by simp[World.frozen?,hvb])).mono ?_
   rintro r w' ⟨rfl,rfl⟩;let ⟨c1,a1,a2,a3⟩:=lU (cs.drop (i*2)) (off+(i+q)*2) w.drew cur hb (by rw[hld];omega)
   let ⟨c2,b1,b2,b3⟩:=lU vs (off+i*2) _ c1 a1.heap (by rw[lv,a2];omega)
   refine ⟨b,off,c,c2,rfl,my,by rw[b2,a2];exact Jp,λt ht=> ?_,.inl ⟨rfl,rfl,⟨b1.heap,b1.size.trans a1.size,λk hk=>(b1.HN k hk).trans (a1.HN k hk),b1.os.trans a1.os,b1.tape.trans a1.tape,b1.output.trans a1.output⟩⟩⟩
   rw[G,b3,lv];by_cases q1:t<i*2
   ·rw[aL (by omega),aH q1,a3,aL (by omega),gc t (by omega)]
   ·rw[aL q1];by_cases q2:t<i*2+q*2
    ·rw[aH (by omega),aH q2,show off+t-(off+i*2)=t-i*2 by omega]
    ·rw[aL (by omega),aL q2,a3,aH (by rw[hld];omega),fa]
     congr 1;omega
  ·have hbw:=(nh.1 hb).1;have hvw:=(nh.1 hvb).1;refine (auf b off n c i vb ju q vc cs vs w I cY hq (by omega) xh hq6 uO hbw hvw).mono ?_
   rintro r w' ⟨G',rfl,hG,wV,mH,mQ,rfl⟩;have hW:(w.drew.alloc (.cells wV 73)).heap[w.heap.size]? =some (.cells wV 73 (0,0)):=heap_alloc_new w.drew _;let ⟨c1,a1,a2,a3⟩:=lU vs (i*2) _ wV hW (by rw[lv];omega)
   let ⟨c2,b1,b2,b3⟩:=lU (cs.drop (i*2)) ((i+q)*2) (World.drew _) c1 a1.heap (by rw[hld,a2];omega)
   refine ⟨w.heap.size,0,G',c2,rfl,hG,by omega,λt ht=> ?_,.inr ⟨rfl,rfl,?_,b1.os.trans a1.os,b1.tape.trans a1.tape,b1.output.trans a1.output⟩⟩
   ·rw[G,cA,b3,hld];by_cases q1:t<i*2
    ·rw[aL (by omega),aH q1,a3,aL (by omega),mQ t q1]
    ·rw[aL q1];by_cases q2:t<i*2+q*2
     ·rw[aL (by omega),aH q2,a3,aH (by rw[lv];omega)]
     ·rw[aH (by omega),aL q2,fa]
      congr 1;omega
   ·have hs:((w.drew.alloc (.cells wV 73))).heap.size=w.heap.size+1:=by simp
    apply Array.ext_getElem?;intro k;rw[Array.getElem?_push];by_cases hk:k=w.heap.size
    ·subst hk;rw[aH rfl];exact b1.heap
    ·rw[aL hk,b1.HN k hk];refine (a1.HN k hk).trans ?_;by_cases xk:k<w.heap.size
     ·exact heap_alloc_old w.drew _ xk
     ·rw[OA (by rw[hs];omega),OA (by omega)]
end Go.Proofs.YtbnkhmoelnfjoaaGreat
end
