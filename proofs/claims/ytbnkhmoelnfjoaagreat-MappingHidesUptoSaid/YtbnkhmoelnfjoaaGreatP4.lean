/- Part. -/
import Derived.Test.YtbnkhmoelnfjoaaGreatP3
import Derived.KernelRfl
import Derived.Test.YtbnkhmoelnfjoaaGreatP2
import Derived.Below
import Derived.Carry
import Derived.OpenShut
import Derived.JoinedCond
import Derived.Test.YtbnkhmoelnfjoaaGreatRows
import Derived.WalkKit
import Derived.ProofKit
import Derived.Deep.DeepHandedRow
import Derived.Test.YtbnkhmoelnfjoaaGreatProg
import Derived.Shelf.Sort.Plain
import Derived.Shelf.Slices.CompactI
import Derived.Shelf.Slices.In.SortNone
import Derived.Ground.NamesProg
import Derived.Ground.Names2Prog
import Derived.Deep.LoopGhost
import Derived.Deep.RegionLaw
import Derived.Lib.SliceRun
import Derived.Lib.Overlaps
import Derived.Lib.AppendZeros
import Derived.Lib.AppendZerosOnto
import Derived.Laws.Externs
import Derived.Laws.NewBlocks
import Derived.Deep.AppendSrc
set_option linter.all false
set_option maxRecDepth 1000000
noncomputable section
namespace Go.bZ
variable {l:dW} {w:WS} {x K f k j n i u A:Nat} {iJ:List Ev} {e:TypeId} {m0:MS} {ob o:List cB} {r xs vs:bf} {Q:bA} {a hi lo:Int} {b ro z d:Bool} {bs:cL} {v:SV} {G:Prop} {sk:bq} {aa svs:aY} {o':SO} {L':Ow} {fn:Func}
section
variable {s s' s1:LS} {E:Env} {pn:Nat->Bool} {nt:Nat} {ops:dE}
variable {w':WS}
def BH {l m:bq} (h:o5 l m=true):∀x∈l,x∉m:=λx hx hm=>by
 induction l with
 |nil=>cases hx
 |cons y l ih=>
  have h:aP (lO y m) false (o5 l m)=true:=h;rw[bG] at h;split at h
  ·cases h
  ·rename_i hy;rcases cH.1 hx with rfl|hx
   ·exact hy ((qd _ _).2 hm)
   ·exact ih h hx
structure WOK (w:WS):Prop where
 bd:∀x,w.m.nx<=x->w.m.H x=none
 cn:∀i,w.m.H i=none->w.c i=none
 fr:∀i o,w.F i=some o->w.m.H i=some o/\w.c i=none
def In.wok (h:In s w):WOK w:=⟨h.bd,h.r.cn,λi o hi=>h.r.fr i o hi⟩
def WOK.alive (h:WOK w) (hc:w.c x=some K):w.m.H x≠none/\x<w.m.nx:=
 have h1:w.m.H x≠none:=λe=>by rw[h.cn x e] at hc;cases hc
 ⟨h1,xA λe=>h1 (h.bd x e)⟩
inductive eu (E:Env) (nt:Nat) (pn:Nat->Bool) (ops:dE):WS->List Ev->WS->Prop
 |nil {w:_} (hw:WOK w):eu E nt pn ops w [] w
 |cons {w w1 w2 e l:_} (hw:WOK w) (h:Step E nt pn ops e w w1) (t:eu E nt pn ops w1 l w2):eu E nt pn ops w (e::l) w2
def eu.split:∀{a:List Ev} {e:Ev} {b:List Ev} {w w':WS},eu E nt pn ops w (a++e::b) w'->∃w1 w2,eu E nt pn ops w a w1/\Step E nt pn ops e w1 w2/\eu E nt pn ops w2 b w'/\WOK w1
 | [],_,_,_,_,.cons hw h t=>⟨_,_,.nil hw,h,t,hw⟩
 |_::a,_,_,_,_,.cons hw h t=>let ⟨w1,w2,h1,h2,h3,h4⟩:=eu.split (a:=a) t;⟨w1,w2,.cons hw h h1,h2,h3,h4⟩
def eu.F:∀{l:List Ev} {w w':WS},eu E nt pn ops w l w'->nq w.F w'.F/\(∀k,pn k=true->w'.g k=w.g k)/\w.m.nx<=w'.m.nx
 |_,_,_,.nil _=>⟨.refl _,λ_ _=>rfl,dg _⟩
 |_,_,_,.cons _ h t=>have ⟨a,b,c⟩:=t.F;⟨h.F.trans a,λk hk=>(b k hk).trans (h.g k hk),jf h.nx c⟩
def eu.H8:∀{l:List Ev} {w w':WS} {x:Nat},eu E nt pn ops w l w'->w.m.H x=none->x<w.m.nx->(∀e∈l,x≠e.nw)->w'.m.H x=none
 |_,_,_,_,.nil _,h,_,_=>h
 |e::l,w,w',x,.cons _ st t,h,hx,hn=>t.H8 (nu λh1=>by
   rcases st.born x h h1 with e0|e0
   ·exact hn e (by simp) e0
   ·omega) (my hx st.nx) λe he=>hn e (fM _ he)
def eu.ajr:∀{l:List Ev} {w w':WS} {x K:Nat},eu E nt pn ops w l w'->WOK w->w.c x=some K->(∀e∈l,x≠e.nw/\(e.cl=true->K∉e.W))->w'.c x=some K\/w'.m.H x=none
 |_,_,_,_,_,.nil _,_,h,_=>.inl h
 |e::l,w,w',x,K,.cons (w1:=w1) hw st t,jn,hc,hl=>by
  obtain ⟨h,hx⟩:=jn.alive hc;have I0:=my hx st.nx;have dead:w1.m.H x=none->w'.c x=some K\/w'.m.H x=none:=λh1=>.inr (t.H8 h1 I0 λe he=>(hl e (fM _ he)).1)
  have ok1:WOK w1:=by cases t<;>assumption
  have go:w1.c x=some K->w'.c x=some K\/w'.m.H x=none:=λh1=>t.ajr ok1 h1 λe he=>hl e (fM _ he)
  cases eA:e.cl with
  |false=>exact ((st.CM eA).1 x K hc).elim go dead
  |true=>
   obtain ⟨_,h2⟩:=st.fr x h λK' hK' e0=>by
    rw[hc] at e0;exact (hl e (by simp)).2 eA ((kW e0) ▸ hK')
   exact go (h2.trans hc)
structure Good (ops:dE) (e':Ev) (pm:List Ev) (e:Ev):Prop where
 cl:e'.cl=false
 rd:∃r' r,e'.Rd=some r'/\e.Rd=some r/\(∀K∈r'++e'.W,K∉e.W/\∀m∈pm,m.cl=true->K∉m.W)/\∀K∈r,K∉e'.W
 sl:∃o' o,ops[e'.i]? =some o'/\ops[e.i]? =some o/\we ops.toList o' o=true
def arP (ops:dE) (p:List Ev) (e:Ev):Prop:=∀pa e' pm,p=pa++e'::pm->e'.i∈mm ops ops.size e.i\/Good ops e' pm e
def PW (ops:dE):List Ev->List Ev->Prop
 |_,[]=>True
 |p,e::l=>((∀k∈direct ops e.i,k∈p.map (·.i))/\arP ops p e)/\PW ops (p++ [e]) l
def PW.at:∀{l p a:List Ev} {e:Ev} {b:List Ev},PW ops p l->l=a++e::b->(∀k∈direct ops e.i,k∈(p++a).map (·.i))/\arP ops (p++a) e
 |_,p,[],e,b,h,rfl=>by rw[tM];exact h.1
 |_,p,e0::a,e,b,h,rfl=>by
  have:=PW.at (p:=p++ [e0]) (a:=a) (e:=e) (b:=b) h.2 rfl;simpa using this
def EN (ops:dE) (iJ:List Ev) (i:Nat):HT:=(lk i (iJ.map λe=>(e.i,e))).elim ⟨none,.undef,λ_=>false,λ_=>none⟩ λe=>⟨(ops[i]?).bind (·.dst),e.r.v,e.r.D,e.r.H⟩
def Lo (nd:(iJ.map (·.i)).Nodup) {e:Ev} (he:e∈iJ):lk e.i (iJ.map λe=>(e.i,e))=some e:=by
 induction iJ with
 |nil=>cases he
 |cons e0 l ih=>
  rw[iZ,dy];obtain ⟨n1,n2⟩:=pt.1 nd;rcases cH.1 he with rfl|he
  ·rw[aH rfl]
  ·rw[aM λ(e1:e.i=e0.i)=>n1 (cP.2 ⟨e,he,e1⟩)]
   exact ih n2 he
def DA {iJ:List Ev} (nd:(iJ.map (·.i)).Nodup):∀{l:List Ev} {w w':WS},(∀e∈l,e∈iJ)->eu E nt pn ops w l w'->eR (EN ops iJ) (l.map (·.i)) (λ_=>true) ⟨w.m.T,w.m.H⟩=⟨w'.m.T,w'.m.H⟩
 |_,_,_,_,.nil _=>rfl
 |e::l,w,w',hm,.cons (w1:=w1) _ st t=>by
  obtain ⟨o,ho,s1⟩:=st.st;have ih:=DA nd (λe he=>hm e (fM _ he)) t
  rw[<-ih];have e1:(⟨w.m.T,w.m.H⟩:DS).app (EN ops iJ e.i)=⟨w1.m.T,w1.m.H⟩:=by
   have:EN ops iJ e.i=⟨(ops[e.i]?).bind (·.dst),e.r.v,e.r.D,e.r.H⟩:=by unfold EN;rw[Lo nd (hm e (by simp))];rfl
   rw[this,ho];show (⟨jg w.m.T o.dst e.r.v,kP e.r.D e.r.H w.m.H⟩:DS)=_;rw[<-s1.T,<-s1.H]
  show eR (EN ops iJ) (e.i::l.map (·.i)) (λ_=>true) _=_
  unfold eR;rw[mz];simp only[aB,DX];rw[e1]
def alE {id:Nat} (hT:w.m.T=m0.T) (hH:w.m.H=m0.H) (h0:w.m.nx=m0.nx+ops.size) (o6:∀x,m0.nx<=x->m0.H x=none) (hc:eu E nt pn ops w iJ w') (nd:(iJ.map (·.i)).Nodup) (gS:∀j,j∈iJ.map (·.i)↔j<ops.size) (hnw:∀e∈iJ,e.nw=m0.nx+e.i) (hp:PW ops [] iJ):jJ E nt (.region id ops true) m0 .normal w'.m:=λok ro k g a wo Q n hQ=>by
 have uniq:∀{e e':Ev},e∈iJ->e'∈iJ->e.i=e'.i->e=e':=λh h' e0=>by
  have a:=Lo nd h;rw[e0,Lo nd h'] at a;exact (kW a).symm
 have Nq:∀{e:Ev},e∈iJ->e.nw<w.m.nx/\m0.nx<=e.nw:=λh=>by
  have:=(gS _).1 (cP.2 ⟨_,h,rfl⟩);rw[hnw _ h,h0];omega
 have nwne:∀{a b:List Ev} {e:Ev},iJ=a++e::b->∀e'∈a++b,e.nw≠e'.nw:=λ{a b e} he e' hm e0=>by
  have he1:e∈iJ:=by rw[he];simp
  have he2:e'∈iJ:=by rw[he];simp only[eO,cH] at hm ⊢;exact hm.elim .inl λh=>.inr (.inr h)
  rw[hnw e he1,hnw e' he2] at e0;have nd':=nd;rw[he,mw,iZ] at nd';obtain ⟨_,n2,n3⟩:=DI.1 nd';rcases eO.1 hm with hm|hm
  ·exact n3 e'.i (cP.2 ⟨e',hm,rfl⟩) e.i (by simp) (by omega)
  ·exact (pt.1 n2).1 (cP.2 ⟨e',hm,by omega⟩)
 have un:∀{a b:List Ev} {w1:WS},iJ=a++b->eu E nt pn ops w a w1->∀e∈b,w1.m.H e.nw=none:=λ{a b w1} he si e hm=>by
  obtain ⟨b1,b2,rfl⟩:=tT hm;have he1:e∈iJ:=by rw[he];simp
  refine si.H8 ?_ (Nq he1).1 λe' he'=>nwne (a:=a++b1) (b:=b2) (by rw[he];simp) e' (by simp[he'])
  rw[hH];exact o6 _ (Nq he1).2
 let need:Nat->Nat->Prop:=λi x=>∃e,e∈iJ/\e.i=i/\e.r.need x
 let frp:Nat->Nat->Prop:=λi x=>∃e,e∈iJ/\e.i=i/\e.r.frp x
 let newp:Nat->Nat->Prop:=λi x=>∃e,e∈iJ/\e.i=i/\e.r.newp x
 have spl:∀{a:bq} {i:Nat} {b:bq},iJ.map (·.i)=a++i::b->∃ea e eb,iJ=ea++e::eb/\ea.map (·.i)=a/\e.i=i:=λ{a i b} h=>by
  obtain ⟨ea,r,h1,h2,h3⟩:=List.map_eq_append_iff.1 h;obtain ⟨e,eb,h4,h5,h6⟩:=List.map_eq_cons_iff.1 h3;exact ⟨ea,e,eb,by rw[h1,h4],h2,h5⟩
 have ahF:∀{e:Ev} {w1 w2:WS} {x:Nat} {r:bq},Step E nt pn ops e w1 w2->WOK w1->e.Rd=some r->e.r.need x->w1.m.H x≠none/\((∃o,w1.F x=some o)\/∃K∈r,w1.c x=some K):=λ{e w1 w2 x r} st ok hr hx=>by
  rcases st.need r hr x hx with h|⟨K,m,h⟩
  ·obtain ⟨o,ho⟩:=su.1 h;exact ⟨by rw[(ok.fr x o ho).1];simp,.inl ⟨o,ho⟩⟩
  ·exact ⟨(ok.alive h).1,.inr ⟨K,m,h⟩⟩
 have ind:∀{pa pm eb:List Ev} {e' e:Ev},iJ=(pa++e'::pm)++e::eb->Good ops e' pm e->Ind ops (EN ops iJ) need e'.i e.i:=λ{pa pm eb e' e} he hg=>by
  obtain ⟨r',r,jA,hr,g1,g2⟩:=hg.rd;obtain ⟨o',o,EC,ho,Ey⟩:=hg.sl;have me':e'∈iJ:=by rw[he];simp
  have me:e∈iJ:=by rw[he];simp
  have sZ:=hc;rw[he] at sZ;obtain ⟨w1,w2,c1,st,_,ok1⟩:=sZ.split;obtain ⟨wp,wq,c2,st',c3,okp⟩:=c1.split;have okq:WOK wq:=by cases c3<;>assumption
  have nxp:=c2.F.2.2;have nxq:=st'.nx;have nx1:=c3.F.2.2;have unp:∀m∈e'::pm++e::eb,wp.m.H m.nw=none:=un (a:=pa) (by rw[he];simp) c2
  have une:w1.m.H e.nw=none:=un (a:=pa++e'::pm) he c1 e (by simp)
  have off:∀{x},wp.m.H x≠none->∀m∈e'::pm++e::eb,x≠m.nw:=λhx m hm e0=>hx (e0 ▸ unp m hm)
  have atp:∀m∈pm++e::eb,e'.nw≠m.nw:=λm hm=>nwne (a:=pa) (b:=pm++e::eb) (by rw[he];simp) m (iq _ hm)
  have cW:∀{K},K∈r'++e'.W->∀m∈pm,m.cl=true->K∉m.W:=λhK m hm eA=>(g1 _ hK).2 m hm eA
  have T0:∀{x K},wp.c x=some K->K∈r'++e'.W->w1.c x=some K\/w1.m.H x=none:=λ{x K} hx hK=>eu.ajr (.cons okp st' c3) okp hx λm hm=>⟨off (okp.alive hx).1 m (gB _ hm),λeA=>by
   rcases cH.1 hm with rfl|hm
   ·rw[hg.cl] at eA;cases eA
   ·exact cW hK m hm eA⟩
  have T1:∀{x},e'.r.D x=true->((∃K∈e'.W,w1.c x=some K)\/w1.m.H x=none)/\x≠e.nw/\x<w1.m.nx:=λ{x} hx=>by
   rcases st'.D x hx with rfl|⟨h,_⟩|⟨K,m,h⟩
   ·have cV:e'.nw<wq.m.nx:=by have:=(Nq me').1;omega
    refine ⟨?_,atp e (by simp),by omega⟩
    by_cases hq:wq.m.H e'.nw=none
    ·exact .inr (c3.H8 hq cV λm hm=>atp m (gB _ hm))
    ·obtain ⟨K,m,h⟩:=(st'.CM hg.cl).2 hq;exact (c3.ajr okq h λm' sV=>⟨atp m' (gB _ sV),cW (iq _ m) m' sV⟩).imp_left λh=>⟨K,m,h⟩
   ·rw[hg.cl] at h;cases h
   ·obtain ⟨al,lt⟩:=okp.alive h;exact ⟨(T0 h (iq _ m)).imp_left λh=>⟨K,m,h⟩,off al e (by simp),by omega⟩
  have dst:∀{e:Ev} {o:Oper},e∈iJ->ops[e.i]? =some o->(EN ops iJ e.i).dst=o.dst:=λhe ho=>by unfold EN;rw[Lo nd he];show (ops[_]?).bind _=_;rw[ho];rfl
  have Dv:∀{e:Ev},e∈iJ->(EN ops iJ e.i).D=e.r.D:=λhe=>by unfold EN;rw[Lo nd he];rfl
  have sl:=kK.1 (show (o5 o'.dst.toList (looks ops.toList o)&&(o5 o.dst.toList (looks ops.toList o')&&o5 o'.dst.toList o.dst.toList))=true from Ey);have sl2:=kK.1 sl.2;have Dfin:∀{x},e.r.D x=true->x≠e.nw->x<w1.m.nx->∃K∈e.W,w1.c x=some K:=λ{x} hx h1 h2=>by
   rcases st.D x hx with h|⟨_,h⟩|h
   ·exact absurd h h1
   ·omega
   ·exact h
  refine ⟨λt ht o1 h1=> ?_,λt ht o1 h1=> ?_,λt ht h1=> ?_,λx hx=> ?_,λx hx=> ?_,λx hx=> ?_⟩
  ·rw[dst me' EC] at ht;rw[ho] at h1;cases h1;rw[<-Gq];exact BH sl.1 t (by rw[ht];simp)
  ·rw[dst me ho] at ht;rw[EC] at h1;cases h1;rw[<-Gq];exact BH sl2.1 t (by rw[ht];simp)
  ·rw[dst me' EC] at ht;rw[dst me ho] at h1;exact BH sl2.2 t (by rw[ht];simp) (by rw[h1];simp)
  ·rw[Dv me'] at hx;rw[Dv me];obtain ⟨t1,t2,t3⟩:=T1 hx;cases hd:e.r.D x with
   |false=>rfl
   |true=>
    obtain ⟨K,m,h⟩:=Dfin hd t2 t3;rcases t1 with ⟨K',m',h'⟩|h'
    ·rw[h'] at h;cases h;exact absurd m (g1 _ (iq _ m')).1
    ·exact absurd h' (ok1.alive h).1
  ·rw[Dv me'];obtain ⟨e1,me1,ei,hx⟩:=hx;obtain rfl:=uniq me1 me ei;obtain ⟨n1,n2⟩:=ahF st ok1 hr hx;cases hd:e'.r.D x with
   |false=>rfl
   |true=>
    obtain ⟨t1,_,_⟩:=T1 hd;rcases t1 with ⟨K',m',h'⟩|h'
    ·rcases n2 with ⟨o,ho⟩|⟨K,m,h⟩
     ·rw[(ok1.fr x o ho).2] at h';cases h'
     ·rw[h'] at h;cases h;exact absurd m' (g2 _ m)
    ·exact absurd h' n1
  ·rw[Dv me];obtain ⟨e1,me1,ei,hx⟩:=hx;obtain rfl:=uniq me1 me' ei;obtain ⟨n1,n2⟩:=ahF st' okp jA hx;have cV:x<wp.m.nx:=xA λh=>n1 (okp.bd x h)
   cases hd:e.r.D x with
   |false=>rfl
   |true=>
    obtain ⟨K,m,h⟩:=Dfin hd (off n1 e (by simp)) (by omega)
    rcases n2 with ⟨o,ho⟩|⟨K',m',h'⟩
    ·rw[(ok1.fr x o (c3.F.1 x o (st'.F x o ho))).2] at h;cases h
    ·rcases T0 h' (gB _ m') with h2|h2
     ·rw[h2] at h;cases h;exact absurd m (g1 _ (gB _ m')).1
     ·exact absurd h2 (ok1.alive h).1
 have step:∀{e:Ev},e∈iJ->∃w1 w2 ea eb,iJ=ea++e::eb/\eu E nt pn ops w ea w1/\Step E nt pn ops e w1 w2/\eu E nt pn ops w2 eb w':=λhe=>by
  obtain ⟨ea,eb,h⟩:=tT he;have sZ:=hc;rw[h] at sZ;obtain ⟨w1,w2,h1,h2,h3,_⟩:=sZ.split;exact ⟨w1,w2,ea,eb,h,h1,h2,h3⟩
 refine auY (nt:=nt) (U:=EN ops iJ) (need:=need) (frp:=frp) (newp:=newp) (s0:=⟨m0.T,m0.H⟩) nd gS n.env.mix (λa i b h=> ?_) (λa i b h=> ?_) (λi k hi hk cY x hx hy=> ?_) n.env n.fr n.hr (λi hi x hx=> ?_) λg' a' w1 q1 q2 q3 q4 q5=> ?_
 ·obtain ⟨ea,e,eb,h1,h2,rfl⟩:=spl h;have me:e∈iJ:=by rw[h1];simp
  have sZ:=hc;rw[h1] at sZ;obtain ⟨w1,w2,c1,st,_,_⟩:=sZ.split;obtain ⟨o,ho,s1⟩:=st.st;have hs:=DA nd (λe' he'=>by rw[h1];exact gB _ he') c1
  rw[hT,hH,h2] at hs;have eU:EN ops iJ e.i=⟨(ops[e.i]?).bind (·.dst),e.r.v,e.r.D,e.r.H⟩:=by unfold EN;rw[Lo nd me];rfl
  refine ⟨o,ho,by rw[eU,ho];rfl,?_⟩
  rw[hs,eU];exact λm g f T1 a w K Q e1 e2 e3 e4 e5 e6 e7=>s1.st ro m g f T1 a w K Q e1 e2 e3 e4 (λx hx=>e5 x ⟨e,me,rfl,hx⟩) (λx hx=>e6 x ⟨e,me,rfl,hx⟩) λr w' g' k1 k2 k3 k4=>e7 r w' g' k1 k2 k3 λx hx=>k4 x λhn=>hx ⟨e,me,rfl,hn⟩
 ·obtain ⟨ea,e,eb,h1,h2,rfl⟩:=spl h;obtain ⟨p1,p2⟩:=hp.at h1;rw[jV,h2] at p1;refine ⟨p1,λk hk=> ?_⟩
  rw[<-h2] at hk;obtain ⟨e',he',rfl⟩:=cP.1 hk;obtain ⟨pa,pm,h3⟩:=tT he';rcases p2 pa e' pm (by rw[jV,h3]) with h|h
  ·exact .inl h
  ·exact .inr (ind (by rw[h1,h3]) h)
 ·obtain ⟨e,me,rfl,hx⟩:=hx;obtain ⟨e2,me2,rfl,hy⟩:=hy;have n1:=Nq me;have n2:=Nq me2;have hnn:e.nw≠e2.nw:=by rw[hnw e me,hnw e2 me2];omega
  obtain ⟨ea,eb,he⟩:=tT me;have sZ:=hc;have me3:=me2;rw[he] at sZ me3;rcases eO.1 me3 with hm|hm
  ·obtain ⟨b1,b2,rfl⟩:=tT hm;obtain ⟨w1,w2,c1,st,_,_⟩:=sZ.split;obtain ⟨v1,v2,d1,Cf,d2,_⟩:=c1.split;have a1:=d1.F.2.2;have a2:=d2.F.2.2;have a3:=Cf.nx;rcases st.frp x hx with h1|⟨_,h1⟩<;>rcases Cf.newp x hy with ⟨_,h2⟩|⟨_,h2,h3⟩
   ·exact absurd (h1.symm.trans h2) hnn
   ·omega
   ·omega
   ·omega
  ·rcases cH.1 hm with h|hm
   ·exact absurd (bM Ev.i h).symm cY
   obtain ⟨b1,b2,rfl⟩:=tT hm;have he':iJ=(ea++e::b1)++e2::b2:=by rw[he];simp
   rw[show ea++e::(b1++e2::b2)=(ea++e::b1)++e2::b2 by simp] at sZ
   obtain ⟨w1,w2,c1,Cf,_,_⟩:=sZ.split;obtain ⟨v1,v2,d1,st,d2,_⟩:=c1.split;have a1:=d1.F.2.2;have a2:=c1.F.2.2;rcases st.frp x hx with h1|⟨eA,h1⟩<;>rcases Cf.newp x hy with ⟨_,h2⟩|⟨_,h2,h3⟩
   ·exact absurd (h1.symm.trans h2) hnn
   ·omega
   ·omega
   ·rcases (hp.at he').2 ea e b1 (by rw[jV]) with h|h
    ·exact h
    ·rw[h.cl] at eA;cases eA
 ·obtain ⟨e,me,rfl,hx⟩:=hx;obtain ⟨w1,w2,ea,eb,he,c1,st,c2⟩:=step me;have a1:=c1.F.2.2;have n1:=Nq me;refine n.fresh x ?_;rcases st.frp x hx with h1|⟨_,h1⟩<;>omega
 ·have nb:∀{x i},newp i x->m0.nx<=x/\x<w'.m.nx:=λ{x i} h=>by
   obtain ⟨e,me,rfl,hx⟩:=h;obtain ⟨w1,w2,ea,eb,he,c1,st,c2⟩:=step me;have a1:=c1.F.2.2;have a2:=c2.F.2.2;have a3:=st.nx;have n1:=Nq me;rcases st.newp x hx with ⟨_,h1⟩|⟨_,h1,h2⟩<;>omega
  have Vb:=DA nd (λe he=>he) hc
  rw[hT,hH] at Vb;rw[Vb] at q1 q2 q3;have hle:=hc.F.2.2;refine hQ g' a' w1 _ .normal ⟨n.env.mono q3.le,q1,q2,λx hx=> ?_⟩ ⟨q3,q4,λx hx=>q5 x λi _ h=> ?_,by omega⟩
  ·rw[q5 x λi _ h=>by have:=nb h;omega]
   exact n.fresh x (by omega)
  ·have:=nb h;omega
end
section
variable {s s' s1:LS} {E:Env} {pn:Nat->Bool} {nt:Nat} {ops:dE}
structure Mt where
 i:Nat
 o:Oper
 W:bq
 Rd:Option bq
 cl:Bool
def ancL (d:bq) (l:List Mt):bq:=List.rec (λd=>d) (λm _ ih d=>ih (aP (lO m.i d) (l8 m.o++d) d)) l d
def alD (all:dd) (o:Oper) (A W:bq) (Rd:Option bq):bq->List Mt->Bool
 |_,[]=>true
 |cw,m::l=>(lO m.i A||(!m.cl&&((match m.Rd,Rd with|some r',some r=>o5 (r'++m.W) (W++cw)&&o5 r m.W|_,_=>false)&&we all m.o o)))&&alD all o A W Rd (aP m.cl (m.W++cw) cw) l
def ajt:bq->List Mt->Bool
 | [],_=>true
 |k::l,p=>lO k (p.map (·.i))&&ajt l p
def Vh (E:Env) (nt:Nat) (pn:Nat->Bool) (all:dd):bq->LS->Sc E->List cB->List Mt->Option (LS×List cB×Sc E)
 | [],s,sc,ob,_=>some (s,ob,sc)
 |i::l,s,sc,ob,p=>az (all[i]?) λo=>az (ajy E nt pn all s o sc) λr=>(λA:bq=>
  aP (Nat.ble (Nat.succ p.length) all.length&&(ajt (l8 o) p&&(!lO i (p.map (·.i))&&alD all o A r.1.r.W r.1.Rd [] p))) (Vh E nt pn all l r.1.r.s r.2 (r.1.r.Eh++ob) (⟨i,o,r.1.r.W,r.1.Rd,r.1.cl⟩::p)) none) (ancL (l8 o) p)
structure Fits (ops:dE) (e:Ev) (m:Mt):Prop where
 i:e.i=m.i
 o:ops[e.i]? =some m.o
 W:e.W=m.W
 Rd:e.Rd=m.Rd
 cl:e.cl=m.cl
inductive C8 (ops:dE):List Ev->List Mt->Prop
 |nil:C8 ops [] []
 |cons {p m e l:_} (h:C8 ops p l) (k:Fits ops e m):C8 ops (p++ [e]) (m::l)
def C8.map:∀{p:List Ev} {l:List Mt},C8 ops p l->∀k,k∈p.map (·.i)↔k∈l.map (·.i)
 |_,_,.nil,k=>Iff.rfl
 |_,_,.cons h f,k=>by simp only[mw,eO,h.map k,iZ,cH,uD,List.not_mem_nil,or_false,f.i];exact Or.comm
def Qk:∀{m n j:Nat},m<=n->∀i∈mm ops m j,i∈mm ops n j
 |0,_,_,_,i,h=>by cases h
 |m+1,0,_,h,_,_=>by omega
 |m+1,n+1,j,h,i,hi=>by
  rcases eO.1 (show i∈direct ops j++(direct ops j).flatMap (mm ops m) from hi) with h1|h1
  ·exact gB _ h1
  ·obtain ⟨k,k1,k2⟩:=tS.1 h1;exact iq _ (tS.2 ⟨k,k1,Qk (Nat.le_of_succ_le_succ h) i k2⟩)
def acu:∀{n j i k:Nat},i∈mm ops n j->k∈direct ops i->k∈mm ops (n+1) j
 |0,_,_,_,h,_=>by cases h
 |n+1,j,i,k,h,hk=>by
  rcases eO.1 (show i∈direct ops j++(direct ops j).flatMap (mm ops n) from h) with h1|h1
  ·exact iq _ (tS.2 ⟨i,h1,gB _ hk⟩)
  ·obtain ⟨q,q1,q2⟩:=tS.1 h1;exact iq _ (tS.2 ⟨q,q1,acu q2 hk⟩)
def aip {j:Nat}:∀{p:List Ev} {l:List Mt} {q:Nat} {d:bq},(∀i∈d,i∈mm ops q j)->C8 ops p l->∀i∈ancL d l,i∈mm ops (q+l.length) j
 |_,_,_,_,hd,.nil,i,hi=>hd i hi
 |_,_,q,d,hd,.cons (m:=m) (l:=l) h k,i,hi=>by
  have:=aip (q:=q+1) (d:=aP (lO m.i d) (l8 m.o++d) d) (λi hi=>by
   rw[bG] at hi;split at hi
   ·rename_i hm;rcases eO.1 hi with hi|hi
    ·exact acu (hd _ ((qd _ _).1 hm)) (by unfold direct;rw[<-k.i,k.o];exact hi)
    ·exact Qk (xz _) i (hd i hi)
   ·exact Qk (xz _) i (hd i hi)) h i hi
  rwa[show q+1+l.length=q+(m::l).length by rw[kq];omega] at this
def agj {l:List Mt}:∀{d:bq},ajt d l=true->∀k∈d,k∈l.map (·.i)
 |k::d,h,j,hj=>by
  have h:=kK.1 (show (lO k (l.map (·.i))&&ajt d l)=true from h)
  rcases cH.1 hj with rfl|hj
  ·exact (qd _ _).1 h.1
  ·exact agj h.2 j hj
def aih {o:Oper} {A:bq} {e:Ev} (ho:ops[e.i]? =some o):∀{p:List Ev} {l:List Mt} {cw:bq},C8 ops p l->alD ops.toList o A e.W e.Rd cw l=true->∀pa e' pm,p=pa++e'::pm->e'.i∈A\/(Good ops e' pm e/\∃r',e'.Rd=some r'/\∀K∈r'++e'.W,K∉cw)
 |_,_,cw,.nil,_,pa,e',pm,h0=>by
  have:=bM List.length h0;simp at this
 |_,_,cw,.cons (p:=p) (m:=m) (e:=e0) (l:=l) hf k,h,pa,e',pm,h0=>by
  have h:=kK.1 (show ((lO m.i A||(!m.cl&&((match m.Rd,e.Rd with|some r',some r=>o5 (r'++m.W) (e.W++cw)&&o5 r m.W|_,_=>false)&&we ops.toList m.o o)))&&alD ops.toList o A e.W e.Rd (aP m.cl (m.W++cw) cw) l)=true from h)
  rcases List.eq_nil_or_concat pm with rfl|⟨pm0,e1,rfl⟩
  ·obtain ⟨rfl,h2⟩:=List.append_inj' h0 rfl;obtain rfl:=List.singleton_inj.1 h2;rcases (pC _ _).mp h.1 with h1|h1
   ·left;rw[k.i];exact (qd _ _).1 h1
   ·right;simp only[bF] at h1;obtain ⟨h1,h2,h3⟩:=h1;rw[<-k.Rd] at h2;split at h2
    ·rename_i r' r e1 e2;rw[bF,<-k.W] at h2;have d1:=BH h2.1;have d2:=BH h2.2;refine ⟨⟨by rw[k.cl];simpa using h1,⟨r',r,e1,e2,λK hK=>⟨λhm=>d1 K hK (gB _ hm),λm hm=>(by cases hm)⟩,d2⟩,⟨m.o,o,k.o,ho,h3⟩⟩,r',e1,λK hK hm=>d1 K hK (iq _ hm)⟩
    ·cases h2
  ·rw[List.concat_eq_append,show pa++e'::(pm0++ [e1])=(pa++e'::pm0)++ [e1] by simp] at h0
   obtain ⟨h1,h2⟩:=List.append_inj' h0 rfl;obtain rfl:=List.singleton_inj.1 h2;rcases aih ho hf h.2 pa e' pm0 h1 with h3|⟨⟨g1,⟨r',r,e1,e2,g2,g3⟩,g4⟩,r'',e3,g5⟩
   ·exact .inl h3
   ·right;rw[e1] at e3;cases e3;rw[bG] at g5;refine ⟨⟨g1,⟨r',r,e1,e2,λK hK=>⟨(g2 K hK).1,λm' sV eA=> ?_⟩,g3⟩,g4⟩,r',e1,λK hK hm=>g5 K hK ?_⟩
    ·rw[List.concat_eq_append] at sV;rcases eO.1 sV with sV|sV
     ·exact (g2 K hK).2 m' sV eA
     ·rw[ez] at sV;subst sV;intro hKW;refine g5 K hK ?_;rw[aH (by rw[<-k.cl];exact eA)]
      exact gB _ (k.W ▸ hKW)
    ·split
     ·exact iq _ hm
     ·exact hm
def GR {base:Nat}:∀{l:bq} {s:LS} {sc:Sc E} {ob:List cB} {pm:List Mt} {r:LS×List cB×Sc E},Vh E nt pn ops.toList l s sc ob pm=some r->iA r.2.1->iA ob/\∀(p:List Ev) (w:WS),C8 ops p pm->(p.map (·.i)).Nodup->In s w->base+ops.size<=w.m.nx->(∀i,i<ops.size->i∉p.map (·.i)->w.m.H (base+i)=none)->
  ∃iJ w',eu E nt pn ops w iJ w'/\In r.1 w'/\iJ.map (·.i)=l/\(∀e∈iJ,e.nw=base+e.i)/\PW ops p iJ/\((p++iJ).map (·.i)).Nodup/\(pn sQ=true->∀x,w.m.H x≠none->w'.m.H x=w.m.H x/\w'.c x=w.c x)
 | [],s,sc,ob,pm,r,h,ho=>by
  cases h;exact ⟨ho,λp w _ nd hw _ _=>⟨[],w,.nil hw.wok,hw,rfl,λe he=>(by cases he),trivial,by simpa using nd,λ_ _ _=>⟨rfl,rfl⟩⟩⟩
 |i::l,s,sc,ob,pm,r,h,ho=>by
  obtain ⟨o,hi,h⟩:=aq h;obtain ⟨q,hq,h⟩:=aq h;obtain ⟨hc,h⟩:=aV h;simp only[bF] at hc;obtain ⟨k1,k2,k3,k4⟩:=hc;rw[lx] at hi;obtain ⟨h1,h2⟩:=GR h ho;obtain ⟨h3,h4⟩:=nO h1;refine ⟨h4,λp w hf nd hw eQ hun=> ?_⟩
  have cV:i<ops.size:=(na.1 hi).1;have hip:i∉p.map (·.i):=λhm=>Gm k3 ((hf.map i).1 hm)
  obtain ⟨r1,w1,st,in1,n1,q9⟩:=YR (new:=base+i) (nx':=w.m.nx) hi hq h3 hw (hun i cV hip) (dg _) (by omega) λ_=>.inr rfl
  have dird:∀k∈l8 o,k∈direct ops i:=λk hk=>by unfold direct;rw[hi];exact hk
  have fit:Fits ops ⟨i,base+i,r1,q.1.r.W,q.1.Rd,q.1.cl⟩ ⟨i,o,q.1.r.W,q.1.Rd,q.1.cl⟩:=⟨rfl,hi,rfl,rfl,rfl⟩;have nd':((p++ [(⟨i,base+i,r1,q.1.r.W,q.1.Rd,q.1.cl⟩:Ev)]).map (·.i)).Nodup:=by
   rw[mw];exact DI.2 ⟨nd,by simp,λa ha b hb e=>hip (by rw[show b=i by simpa using hb] at e;exact e ▸ ha)⟩
  obtain ⟨iJ,w',c1,c2,c3,c4,c5,c6,c9⟩:=h2 _ w1 (.cons hf fit) nd' in1 (jf eQ st.nx) λj hj hjp=>nu λcY=>by
   rw[mw,eO,not_or] at hjp;rcases st.born (base+j) (hun j hj hjp.1) cY with e|e
   ·exact hjp.2 (by have e:base+j=base+i:=e;simp;omega)
   ·have e:w.m.nx<=base+j:=e;omega
  refine ⟨⟨i,base+i,r1,q.1.r.W,q.1.Rd,q.1.cl⟩::iJ,w',.cons hw.wok st c1,c2,by rw[iZ,c3],λe he=> ?_,⟨⟨λk hk=> ?_,λpa e' pm' hp=> ?_⟩,c5⟩,by simpa using c6,λhp x hx=>have ⟨a1,a2⟩:=q9 hp x hx;have ⟨b1,b2⟩:=c9 hp x (a1 ▸ hx);⟨b1.trans a1,b2.trans a2⟩⟩
  ·rcases cH.1 he with rfl|he
   ·rfl
   ·exact c4 e he
  ·refine (hf.map k).2 (agj k2 k ?_);have hk:k∈((ops[i]?).map l8).getD []:=hk;rw[hi] at hk;exact hk
  ·rcases aih (e:=⟨i,base+i,r1,q.1.r.W,q.1.Rd,q.1.cl⟩) hi hf k4 pa e' pm' hp with h|⟨h,_⟩
   ·refine .inl (Qk ?_ _ (aip (q:=1) (λk hk=>gB _ (dird k hk)) hf _ h))
    have:=(bV _ _).1 k1;have e:ops.toList.length=ops.size:=Kr;omega
   ·exact .inr h
def ordS (n:Nat) (sc:Sc E):bq×Sc E:=
 match sc with
 |(0,.ord l)::sc=>(l,sc)
 |_=>(List.range n,sc)
def ayt (E:Env) (nt:Nat) (pn:Nat->Bool) (all:dd) (n:Nat) (s:LS) (sc:Sc E) (ob:List cB):Option (LS×List cB×Sc E):=
 (λq:LS×List cB×Sc E=>(λσ:bq×Sc E=>aP ((List.range n).all λj=>lO j σ.1) (Vh E nt pn all σ.1 q.1 σ.2 q.2.1 []) none) (ordS n q.2.2)) (Bz pn sc s ob)
def auZ {id:Nat} {sc:Sc E} {r:LS×List cB×Sc E} (h:ayt E nt pn ops.toList ops.size s sc ob=some r) (ho:iA r.2.1):iA ob/\∀w,In s w->∃w',jJ E nt (.region id ops true) w.m .normal w'.m/\In r.1 w'/\Ext pn w w':=by
 obtain ⟨h1,h⟩:=aV h;obtain ⟨h2,h3⟩:=GR (base:=0) h ho;obtain ⟨h4,h5,h9⟩:=Jl sc s ob h2;refine ⟨h4,λw hw=> ?_⟩
 obtain ⟨w1,k1,k2,k3⟩:=hw.UF h5 h9;let w2:WS:=⟨w1.F,w1.g,w1.Y,w1.c,⟨w1.m.T,w1.m.H,w1.m.nx+ops.size⟩⟩;have in2:In (Bz pn sc s ob).1 w2:=⟨k1.r,λx hx=>k1.bd x (by have hx:w1.m.nx+ops.size<=x:=hx;omega)⟩
 obtain ⟨_,h3⟩:=GR (base:=w1.m.nx) h ho;obtain ⟨iJ,w',c1,c2,c3,c4,c5,c6,c9⟩:=h3 [] w2 .nil (by simp) in2 (dg _) λi _ _=>k1.bd _ (by omega)
 have c6:(iJ.map (·.i)).Nodup:=by simpa using c6
 have cV:∀j∈iJ.map (·.i),j<ops.size:=λj hj=>by
  obtain ⟨e,he,rfl⟩:=cP.1 hj;obtain ⟨a,b,he'⟩:=tT he;rw[he'] at c1;obtain ⟨_,_,_,st,_⟩:=c1.split;obtain ⟨o,ho,_⟩:=st.st;exact (na.1 ho).1
 have hF:=c1.F;have eQ:w1.m.nx<=w'.m.nx:=jf (xw _ _) hF.2.2;refine ⟨w',?_,c2,k2.trans ⟨hF.1,hF.2.1,eQ,λx hx cY h0=> ?_,c9⟩⟩
 ·rw[<-k3];exact alE (w:=w2) rfl rfl rfl k1.bd c1 c6 (λj=>⟨cV j,λhj=>by rw[c3];exact (qd _ _).1 ((iT.1 h1) j (SF.2 hj))⟩) c4 c5
 ·refine cY (c1.H8 h0 (show x<w1.m.nx+ops.size by omega) λe he e0=> ?_)
  rw[c4 e he] at e0;omega
end
section
variable {s s' s1:LS} {E:Env} {nt:Nat}
variable {p:bq} {c:Code} {g:Gb} {Y:Nat->Ow} {T:Tf} {H:Hf} {y:AV} {gb:cL}
def Cm:Code->Nat->Code
 | .seq a _,0=>a
 | .seq _ b,_=>b
 | .cond _ a _,0=>a
 | .cond _ _ b,_=>b
 | .block _ c,_=>c
 | .loop c,_=>c
 |_,_=>.skip
def vi (c:Code):bq->Code
 | []=>c
 |i::p=>Cm (vi c p) i
inductive KP where
 |code (p:bq) (c:Code)|block (id:Nat)|loop (p:bq) (c:Code)
def lA (c:Code):bq->List KP
 | []=> []
 |i::p=>
  match vi c p with
  | .seq _ b=>(match i with|0=>.code (1::p) b::lA c p|_=>lA c p)
  | .block id _=>.block id::lA c p
  | .loop b=>.loop p b::lA c p
  |_=>lA c p
structure Fx (E:Env) where
 fn:Func
 code:Code
 IC:bq
 ro:Bool
def A8 (X:Fx E) (k:Nat):Bool:=aP (Nat.beq k sQ) X.ro (pnL X.IC k)
inductive Md where
 |CI (c:Code) (p:bq) (jH:Bool)|out (e:Ex)
inductive Stop where
 |at (p:bq) (s:LS)|ret (y:AV) (bs:cL)
def eqP:bq->bq->Bool
 | []=>λq=>(match q with| []=>true|_=>false)
 |a::p=>λq=>(match q with| []=>false|b::q=>aP (Nat.beq a b) (eqP p q) false)
def auB (p:bq) (st:Stop):Option LS:=
 match st with
 | .at q s=>aP (eqP q p) (some s) none
 |_=>none
def Nc (E:Env) (s:LS):ResultVar->AV
 | .tmp t=>(lk t s.ts).getD .undef
 | .cell t ty=>(bU (lk t s.ts) (E.ty.get ty) λa i=>Gr i s.bs a).getD .undef
def IE:bf->AV
 | [v]=>v
 |vs=>.cS vs
abbrev zy:=Option (Stop×List cB)
def asY (X:Fx E) (st:Stop) (s:LS) (o:List cB):zy:=
 match st with
 | .ret y bs=>(λys:bf=>az (NP s.bs bs) λbs=>aP (sD ys) (some (.ret (cv y (IE ys)) bs,o)) none) (X.fn.results.toList.map (Nc E s))
 |_=>none
def retG (X:Fx E) (st:Stop) (s:LS) (sc:Sc E) (o:List cB):zy:=(λq:LS×List cB×Sc E=>asY X st q.1 q.2.1) (Bz (A8 X) sc s o)
abbrev JL (E:Env):=Md->List KP->LS->Sc E->List cB->zy
def regK (X:Fx E) (ih:JL E) (ops:dd) (n:Nat) (draw:Bool) (ks:List KP) (s:LS) (sc:Sc E) (o:List cB):zy:=
 az (aP draw (ayt E X.fn.ntmps (A8 X) ops n s sc o) (aac E X.fn.ntmps (A8 X) ops ops s sc o)) λr=>ih (.out .normal) ks r.1 r.2.2 r.2.1
def P3 (X:Fx E) (st:Stop) (ih:JL E) (c:Code) (p:bq) (ks:List KP) (s:LS) (sc:Sc E) (o:List cB):zy:=
 match c with
 | .skip=>ih (.out .normal) ks s sc o
 | .seq a b=>ih (.CI a (0::p) true) (.code (1::p) b::ks) s sc o
 | .region _ ops draw=>regK X ih ops.toList ops.size draw ks s sc o
 | .cond x a b=>(match dR s.ts x with
  | .lit (.bool t)=>aP t (ih (.CI a (0::p) true) ks s sc o) (ih (.CI b (1::p) true) ks s sc o)
  |_=>none)
 | .block id c=>ih (.CI c (0::p) true) (.block id::ks) s sc o
 | .loop c=>ih (.CI c (0::p) true) (.loop p c::ks) s sc o
 | .exit id=>ih (.out (.exit id)) ks s sc o
 | .ret=>ih (.out .ret) ks s sc o
 |_=>none
def aaT (X:Fx E) (st:Stop) (ih:JL E) (e:Ex) (ks:List KP) (s:LS) (sc:Sc E) (o:List cB):zy:=
 match ks with
 | []=>aP (PC e) (retG X st s sc o) none
 | .code p c::ks=>aP (vo e) (ih (.CI c p true) ks s sc o) (ih (.out e) ks s sc o)
 | .block id::ks=>ih (.out (leave id e)) ks s sc o
 | .loop p c::ks=>aP (vo e) (ih (.CI (.loop c) p true) ks s sc o) (ih (.out e) ks s sc o)
def aJo (ro:Bool) (p:bq) (w:LS) (q:LS×List cB×Sc E):zy:=aP ro none (az (NP q.1.bs w.bs) λbs=>some (.at p ⟨cvT w.ts q.1.ts,bs⟩,q.2.1))
def UG (X:Fx E) (st:Stop) (ih:JL E) (m:Md) (ks:List KP) (s:LS) (sc:Sc E) (o:List cB):zy:=
 match m with
 | .CI c p jH=>aP jH (match auB p st with
  |some w=>aJo (A8 X sQ) p w (Bz (A8 X) sc s o)
  |none=>P3 X st ih c p ks s sc o) (P3 X st ih c p ks s sc o)
 | .out e=>aaT X st ih e ks s sc o
def runK (X:Fx E) (st:Stop) (n:Nat):JL E:=Nat.rec (λ_ _ _ _ _=>none) (λ_ ih=>UG X st ih) n
def qv (X:Fx E) (st:Stop) (p:bq) (s:LS) (sc:Sc E):zy:=runK X st 100000 (.CI (vi X.code p) p false) (lA X.code p) s sc []
def KT (E:Env) (nt:Nat):List KP->Ex->MS->Ex->MS->Prop
 | [],e,m,e',m'=>e=e'/\m=m'
 | .code _ c::ks,e,m,e',m'=>if vo e=true then ∃e1 m1,jJ E nt c m e1 m1/\KT E nt ks e1 m1 e' m' else KT E nt ks e m e' m'
 | .block id::ks,e,m,e',m'=>KT E nt ks (leave id e) m e' m'
 | .loop _ c::ks,e,m,e',m'=>if vo e=true then ∃e1 m1,jJ E nt (.loop c) m e1 m1/\KT E nt ks e1 m1 e' m' else KT E nt ks e m e' m'
def KTC (E:Env) (nt:Nat) (c:Code) (ks:List KP) (m:MS) (e':Ex) (m':MS):Prop:=∃e1 m1,jJ E nt c m e1 m1/\KT E nt ks e1 m1 e' m'
def MdT (E:Env) (nt:Nat) (md:Md) (ks:List KP) (m:MS) (e':Ex) (m':MS):Prop:=
 match md with
 | .CI c _ _=>KTC E nt c ks m e' m'
 | .out e=>KT E nt ks e m e' m'
def Holds (X:Fx E) (Q:Ex->WS->Prop) (ks:List KP) (s:LS) (md:Md):Prop:=∀w,In s w->∃e' w',MdT E X.fn.ntmps md ks w.m e' w'.m/\Ext (A8 X) w w'/\Q e' w'
def Fin (X:Fx E) (y:AV) (gb:cL) (e:Ex) (w:WS):Prop:=PC e=true/\(∃vs,sC E w.m.T w.m.H X.fn.results.toList=some vs/\VA w.F w.g (oneOf vs) y)/\Rel w.F w.g w.Y w.c ⟨[],gb⟩ noT w.m.H/\∀x,w.m.nx<=x->w.m.H x=none
def AtQ (X:Fx E) (p:bq) (s:LS) (Q:Ex->WS->Prop):Prop:=Holds X Q (lA X.code p) s (.CI (vi X.code p) p false)
def At (X:Fx E) (p:bq) (s:LS) (y:AV) (gb:cL):Prop:=AtQ X p s (Fin X y gb)
def Holds.step {X:Fx E} {Q:Ex->WS->Prop} {ks IU:List KP} {md md':Md} (h:Holds X Q IU s md') (k:∀{m e m'},MdT E X.fn.ntmps md' IU m e m'->MdT E X.fn.ntmps md ks m e m'):Holds X Q ks s md:=λw hw=>
 let ⟨e,w',h1,h2,h3⟩:=h w hw
 ⟨e,w',k h1,h2,h3⟩
def Holds.lead {X:Fx E} {Q:Ex->WS->Prop} {ks IU:List KP} {md md':Md} (h:Holds X Q IU s' md') (k:∀w,In s w->∃w1,In s' w1/\Ext (A8 X) w w1/\∀{e m'},MdT E X.fn.ntmps md' IU w1.m e m'->MdT E X.fn.ntmps md ks w.m e m'):Holds X Q ks s md:=λw hw=>
 let ⟨w1,k1,k2,k3⟩:=k w hw
 let ⟨e,w',h1,h2,h3⟩:=h w1 k1
 ⟨e,w',k3 h1,k2.trans h2,h3⟩
def Holds.UF {X:Fx E} {Q:Ex->WS->Prop} {ks:List KP} {md:Md} (h:Holds X Q ks s' md) (k:jM (A8 X) s s') (ij:A8 X sQ=true->s'=s):Holds X Q ks s md:=h.lead λw hw=>
 let ⟨w1,k1,k2,k3⟩:=hw.UF k ij
 ⟨w1,k1,k2,λh=>k3 ▸ h⟩
def Wa {e:Ex} (h:vo e=true):e= .normal:=by cases e<;>first|rfl|cases h
def KTC.seq {a b:Code} {ks:List KP} {m m':MS} {e:Ex} (h:KTC E nt a (.code p b::ks) m e m'):KTC E nt (.seq a b) ks m e m':=by
 obtain ⟨e1,m1,h1,h2⟩:=h;unfold KT at h2;split at h2
 ·rename_i hn;obtain rfl:=Wa hn;obtain ⟨e2,m2,h3,h4⟩:=h2;exact ⟨e2,m2,.seq h1 h3,h4⟩
 ·rename_i hn;exact ⟨e1,m1,.aEs (by simpa using hn) h1,h2⟩
def KTC.loop {ks:List KP} {m m':MS} {e:Ex} (h:KTC E nt c (.loop p c::ks) m e m'):KTC E nt (.loop c) ks m e m':=by
 obtain ⟨e1,m1,h1,h2⟩:=h;unfold KT at h2;split at h2
 ·rename_i hn;obtain rfl:=Wa hn;obtain ⟨e2,m2,h3,h4⟩:=h2;exact ⟨e2,m2,.loop h1 h3,h4⟩
 ·rename_i hn;exact ⟨e1,m1,.aBG (by simpa using hn) h1,h2⟩
def KOK (X:Fx E):List KP->Prop
 | []=>True
 | .code p c::ks=>c=vi X.code p/\ks=lA X.code p/\KOK X ks
 | .loop p c::ks=>Code.loop c=vi X.code p/\ks=lA X.code p/\KOK X ks
 | .block _::ks=>KOK X ks
def IV (X:Fx E):∀p,KOK X (lA X.code p)
 | []=>trivial
 |i::p=>by
  have ih:=IV X p;unfold lA;split
  ·rename_i a b hc;split
   ·exact ⟨by simp[vi,hc,Cm],by simp[lA,hc],ih⟩
   ·exact ih
  ·exact ih
  ·rename_i b hc;exact ⟨hc.symm,rfl,ih⟩
  ·exact ih
def JO (X:Fx E) (ks:List KP):Md->Prop
 | .CI c p _=>c=vi X.code p/\ks=lA X.code p
 | .out _=>True
def XC (X:Fx E) (Q:Ex->WS->Prop):Stop->Prop
 | .at p s=>AtQ X p s Q
 | .ret y bs=>∀e w,Fin X y bs e w->Q e w
def amo (X:Fx E) (Q:Ex->WS->Prop) (ih:JL E):Prop:=
 ∀m ks s sc o r,ih m ks s sc o=some r->iA r.2->KOK X ks->JO X ks m->XC X Q r.1->iA o/\Holds X Q ks s m
def aBs {F:Hf} {c:Nat->bP} (r:Rel F g Y c s T H) {x:ResultVar} (hu:Nc E s x≠ .undef):∃v,OZ E T H x=some v/\VA F g v (Nc E s x):=by
 cases x with
 |tmp t=>
  have hu:(lk t s.ts).getD .undef≠ .undef:=hu;show ∃v,T t=some v/\VA F g v ((lk t s.ts).getD .undef);cases h:lk t s.ts with
  |none=>rw[h] at hu;exact absurd rfl hu
  |some x=>rw[h] at hu;exact r.tm t x h hu
 |cell t ty=>
  have hu:(bU (lk t s.ts) (E.ty.get ty) λa i=>Gr i s.bs a).getD .undef≠ .undef:=hu
  show ∃v,az (T t) (oW E H ty)=some v/\VA F g v ((bU (lk t s.ts) (E.ty.get ty) λa i=>Gr i s.bs a).getD .undef)
  cases h:bU (lk t s.ts) (E.ty.get ty) λa i=>Gr i s.bs a with
  |none=>rw[h] at hu;exact absurd rfl hu
  |some x=>
   obtain ⟨a,i,h1,h2,h3⟩:=bp h;obtain ⟨v,v1,v2⟩:=r.tm t a h1 (λe=>by subst e;cases h3)
   obtain ⟨u,u1,u2⟩:=ahK (E:=E) (t:=ty) h2 h3 r v2;refine ⟨u,?_,u2⟩;rw[v1];show oW E H ty v=_;cases hl:oW E H ty v with
   |none=>rw[hl] at u1;cases u1
   |some z=>rw[hl] at u1;cases u1;rfl
def ahi {F:Hf} {g:Gb} {Y:Nat->Ow} {c:Nat->bP} {T:Tf} {H:Hf} (r:Rel F g Y c s T H):∀{l:List ResultVar},sD (l.map (Nc E s))=true->∃vs,sC E T H l=some vs/\dz F g vs (l.map (Nc E s))
 | [],_=>⟨[],rfl,.nil⟩
 |x::l,h=>by
  have h:aP (sH (Nc E s x)) false (sD (l.map (Nc E s)))=true:=h;rw[bG] at h;split at h
  ·cases h
  ·rename_i hx;obtain ⟨v,v1,v2⟩:=aBs (E:=E) r (Gt (by simpa using hx))
   obtain ⟨vs,w1,w2⟩:=ahi r h;exact ⟨v::vs,by show bU _ _ _=_;rw[v1,w1];rfl,.cons v2 w2⟩
def aBr {X:Fx E} {Q:Ex->WS->Prop} {st:Stop} {sc:Sc E} {r:Stop×List cB} {e:Ex} (he:PC e=true) (h:retG X st s sc o=some r) (ho:iA r.2) (hp:XC X Q r.1):iA o/\Holds X Q [] s (.out e):=by
 have h:asY X st (Bz (A8 X) sc s o).1 (Bz (A8 X) sc s o).2.1=some r:=h;unfold asY at h;split at h
 ·rename_i y bs _;obtain ⟨gb,h1,h⟩:=aq h;obtain ⟨h2,h⟩:=aV h;cases h;obtain ⟨k1,k2,k3⟩:=Jl sc s o ho;refine ⟨k1,Holds.UF (λw hw=>⟨e,w,⟨rfl,rfl⟩,.refl w,hp e w ⟨he,?_,?_,hw.bd⟩⟩) k2 k3⟩
  ·obtain ⟨vs,v1,v2⟩:=ahi (E:=E) hw.r h2;refine ⟨vs,v1,CK ?_⟩;generalize X.fn.results.toList.map _=ys at v2;cases v2 with
   |nil=>exact .cS .nil
   |cons a b=>cases b with
    |nil=>exact a
    |cons b c=>exact .cS (.cons a (.cons b c))
  ·have:=hw.r.cv (w:=⟨[],bs⟩) h1;exact {this with tm:=λt x hx=>(by cases hx)}
 ·cases h
def Wl {X:Fx E} {Q:Ex->WS->Prop} {st:Stop} {ih:JL E} {ks:List KP} {sc:Sc E} {r:Stop×List cB} {jH:Bool} (Bt:amo X Q ih) (h:P3 X st ih c p ks s sc o=some r) (ho:iA r.2) (hk:KOK X ks) (h1:c=vi X.code p) (h2:ks=lA X.code p) (hp:XC X Q r.1):iA o/\Holds X Q ks s (.CI c p jH):=by
 unfold P3 at h;split at h
 ·obtain ⟨q1,q2⟩:=Bt _ _ _ _ _ _ h ho hk trivial hp;exact ⟨q1,q2.step λh=>⟨_,_,.skip,h⟩⟩
 ·rename_i a b;obtain ⟨q1,q2⟩:=Bt _ _ _ _ _ _ h ho ⟨by simp[vi,<-h1,Cm],by simp[lA,<-h1,h2],hk⟩ ⟨by simp[vi,<-h1,Cm],by simp[lA,<-h1,h2]⟩ hp
  exact ⟨q1,q2.step λh=>KTC.seq h⟩
 ·rename_i id ops draw;obtain ⟨q,h3,h⟩:=aq h;obtain ⟨q1,q2⟩:=Bt _ _ _ _ _ _ h ho hk trivial hp;rw[bG] at h3;split at h3
  ·rename_i hd;subst hd;obtain ⟨q3,q4⟩:=auZ (id:=id) h3 q1;exact ⟨q3,q2.lead λw hw=>let ⟨w1,a,b,c⟩:=q4 w hw;⟨w1,b,c,λh=>⟨_,_,a,h⟩⟩⟩
  ·rename_i hd;obtain rfl:draw=false:=by simpa using hd
   obtain ⟨q3,q4⟩:=V2 (i:=0) (ops:=ops) (by simp) (qF _) h3 q1
   exact ⟨q3,q2.lead λw hw=>let ⟨w1,a,b,c⟩:=q4 w hw;⟨w1,b,c,λh=>⟨_,_,.region a,h⟩⟩⟩
 ·rename_i x a b;split at h
  ·rename_i t hv;have hc:∀w,In s w->cD w.m.T x=some (.bool t):=λw hw=>by
    obtain ⟨v,v1,v2⟩:=hw.r.val hv (by simp)
    cases v2;exact v1
   rw[bG] at h;split at h
   ·rename_i ht;subst ht;obtain ⟨q1,q2⟩:=Bt _ _ _ _ _ _ h ho hk ⟨by simp[vi,<-h1,Cm],by simp[lA,<-h1,h2]⟩ hp
    exact ⟨q1,q2.lead λw hw=>⟨w,hw,.refl w,λ⟨e1,m1,k1,k2⟩=>⟨e1,m1,.cond (b:=true) (hc w hw) k1,k2⟩⟩⟩
   ·rename_i ht;obtain rfl:t=false:=by simpa using ht
    obtain ⟨q1,q2⟩:=Bt _ _ _ _ _ _ h ho hk ⟨by simp[vi,<-h1,Cm],by simp[lA,<-h1,h2]⟩ hp
    exact ⟨q1,q2.lead λw hw=>⟨w,hw,.refl w,λ⟨e1,m1,k1,k2⟩=>⟨e1,m1,.cond (b:=false) (hc w hw) k1,k2⟩⟩⟩
  ·cases h
 ·rename_i id c;obtain ⟨q1,q2⟩:=Bt _ _ _ _ _ _ h ho hk ⟨by simp[vi,<-h1,Cm],by simp[lA,<-h1,h2]⟩ hp
  exact ⟨q1,q2.step λ⟨e1,m1,k1,k2⟩=>⟨_,m1,.block k1,k2⟩⟩
 ·rename_i c;obtain ⟨q1,q2⟩:=Bt _ _ _ _ _ _ h ho ⟨h1,h2,hk⟩ ⟨by simp[vi,<-h1,Cm],by simp[lA,<-h1,h2]⟩ hp
  exact ⟨q1,q2.step λh=>KTC.loop h⟩
 ·obtain ⟨q1,q2⟩:=Bt _ _ _ _ _ _ h ho hk trivial hp;exact ⟨q1,q2.step λh=>⟨_,_,.exit,h⟩⟩
 ·obtain ⟨q1,q2⟩:=Bt _ _ _ _ _ _ h ho hk trivial hp;exact ⟨q1,q2.step λh=>⟨_,_,.ret,h⟩⟩
 ·cases h
def apC {X:Fx E} {Q:Ex->WS->Prop} {st:Stop} {ih:JL E} {e:Ex} {ks:List KP} {sc:Sc E} {r:Stop×List cB} (Bt:amo X Q ih) (h:aaT X st ih e ks s sc o=some r) (ho:iA r.2) (hk:KOK X ks) (hp:XC X Q r.1):iA o/\Holds X Q ks s (.out e):=by
 unfold aaT at h;split at h
 ·obtain ⟨he,h⟩:=aV h;exact aBr he h ho hp
 ·rename_i p c ks;obtain ⟨k1,k2,k3⟩:=hk;rw[bG] at h;split at h
  ·rename_i he;obtain ⟨q1,q2⟩:=Bt _ _ _ _ _ _ h ho k3 ⟨k1,k2⟩ hp;exact ⟨q1,q2.step λh=>by show KT E _ (.code p c::ks) e _ _ _;unfold KT;rw[aH he];exact h⟩
  ·rename_i he;obtain ⟨q1,q2⟩:=Bt _ _ _ _ _ _ h ho k3 trivial hp;exact ⟨q1,q2.step λh=>by show KT E _ (.code p c::ks) e _ _ _;unfold KT;rw[aM he];exact h⟩
 ·rename_i id ks;obtain ⟨q1,q2⟩:=Bt _ _ _ _ _ _ h ho hk trivial hp;exact ⟨q1,q2.step λh=>h⟩
 ·rename_i p c ks;obtain ⟨k1,k2,k3⟩:=hk;rw[bG] at h;split at h
  ·rename_i he;obtain ⟨q1,q2⟩:=Bt _ _ _ _ _ _ h ho k3 ⟨k1,k2⟩ hp;exact ⟨q1,q2.step λh=>by show KT E _ (.loop p c::ks) e _ _ _;unfold KT;rw[aH he];exact h⟩
  ·rename_i he;obtain ⟨q1,q2⟩:=Bt _ _ _ _ _ _ h ho k3 trivial hp;exact ⟨q1,q2.step λh=>by show KT E _ (.loop p c::ks) e _ _ _;unfold KT;rw[aM he];exact h⟩
def UH (X:Fx E) (st:Stop) (Q:Ex->WS->Prop):∀n,amo X Q (runK X st n)
 |0=>λm ks s sc o r h=>by
  have h:none=some r:=h;cases h
 |n+1=>λm ks s sc o r h ho hk hm hp=>by
  have ih:=UH X st Q n;have h:UG X st (runK X st n) m ks s sc o=some r:=h;cases m with
  |out e=>exact apC ih h ho hk hp
  |CI c p jH=>
   obtain ⟨m1,m2⟩:=hm;unfold UG at h;dsimp only at h;rw[bG] at h;split at h
   ·split at h
    ·rename_i l hl;have h:aP (A8 X sQ) none (az (NP (Bz (A8 X) sc s o).1.bs l.bs) λbs=>some (Stop.at p ⟨cvT l.ts (Bz (A8 X) sc s o).1.ts,bs⟩,(Bz (A8 X) sc s o).2.1))=some r:=h
     rw[bG] at h;split at h
     ·cases h
     rename_i hr;obtain ⟨bs,h1,h⟩:=aq h;cases h;obtain ⟨k1,k2,_⟩:=Jl sc s o ho;subst m1;subst m2;exact ⟨k1,Holds.UF hp (k2.trans (jM.cv h1)) λh=>absurd h hr⟩
    ·exact Wl ih h ho hk m1 m2 hp
   ·exact Wl ih h ho hk m1 m2 hp
abbrev Shw:=Option (Stop×List Prop)
def F4 (r:zy):Shw:= @Option.rec (Stop×List cB) (λ_=>Shw) none (λq=>some (q.1,q.2.map cB.need)) r
def F5 (st:Stop) (r:zy):Shw:= @Option.rec (Stop×List cB) (λ_=>Shw) (some (st,[])) (λq=>some (st,q.2.map cB.got)) r
def aiq:∀{l:List cB},l.map cB.need=l.map cB.got->iA l
 | [],_=>trivial
 |q::l,h=>by
  rw[iZ,iZ,List.cons.injEq] at h;exact ⟨h.1 ▸ q.pf,aiq h.2⟩
def aoO {st:Stop} {r:zy} (h:F4 r=F5 st r):∃o,r=some (st,o)/\iA o:=by
 cases r with
 |none=>cases h
 |some q=>
  have h:some (q.1,q.2.map cB.need)=some (st,q.2.map cB.got):=h;rw[Kp,Prod.mk.injEq] at h;exact ⟨q.2,by rw[<-h.1],aiq h.2⟩
def aab {X:Fx E} {p':bq} {s s':LS} {sc:Sc E} (h:F4 (qv X (.at p' s') p s sc)=F5 (.at p' s') (qv X (.at p' s') p s sc)) (k:At X p' s' y gb):At X p s y gb:=by
 obtain ⟨o,h1,h2⟩:=aoO h;exact (UH X _ _ _ _ _ _ _ _ _ h1 h2 (IV X p) ⟨rfl,rfl⟩ k).2
def ahh {X:Fx E} {s:LS} {sc:Sc E} (h:F4 (qv X (.ret y gb) p s sc)=F5 (.ret y gb) (qv X (.ret y gb) p s sc)):At X p s y gb:=by
 obtain ⟨o,h1,h2⟩:=aoO h;exact (UH X _ _ _ _ _ _ _ _ _ h1 h2 (IV X p) ⟨rfl,rfl⟩ λe w h=>h).2
end
section
section
variable {F F':Hf} {g g':Gb} {s s' s1:LS} {E:Env} {nt:Nat}
variable {y:AV} {gb:cL}
def CX:Nat->bf->fy
 |_,[]=> []
 |i,x::l=>(i,x)::CX (i+1) l
def aco:∀{xs:bf} {aa:aY},dz F g aa xs->∀{i t:Nat} {x:AV},lk t (CX i xs)=some x->∃v,i<=t/\t<i+aa.length/\aa[t-i]? =some v/\VA F g v x
 | [],_,_,i,t,x,h=>by cases h
 |y::l,_,.cons (vs:=vs) hv q,i,j,x,h=>by
  rw[show CX i (y::l)=(i,y)::CX (i+1) l from rfl,dy] at h;split at h
  ·rename_i e;cases h;subst e;exact ⟨_,dg _,by simp,by simp,hv⟩
  ·obtain ⟨v,a1,a2,a3,a4⟩:=aco q h;refine ⟨v,by omega,by rw[kq];omega,?_,a4⟩
   rw[show j-i=(j-(i+1))+1 by omega,rU]
   exact a3
def ard {e:Ex} (h:PC e=true):LG e=some none:=by cases e<;>first|rfl|cases h
def GY [Hm E] {X:Fx E} {s:LS} (h1:E.fn.get f=some X.fn) (h2:X.fn.body=some X.code) (h3:yM X.fn.name=false) (hn:Nat.ble xs.length X.fn.ntmps=true) (hp:uH s.bs=X.IC) (hs:(⟨CX 0 xs,s.bs⟩:LS)=s) (h:At X [] s y gb):km X.ro E f s.bs xs y gb:=.mk λ{F g Y c H nx aa} r eV has=>by
 have r0:Rel F g Y c s (setArgs aa 0 .nil).get H:={r with tm:=λt x hx cY=>(by
  rw[<-hs] at hx;obtain ⟨v,a1,a2,a3,a4⟩:=aco has hx;exact ⟨v,by rw[Dh,aH ⟨a1,a2⟩];exact a3,a4⟩)}
 obtain ⟨e,w',k1,k2,k3,⟨vs,k4,k5⟩,k6,k7⟩:=h ⟨F,g,Y,c,⟨(setArgs aa 0 .nil).get,H,nx⟩⟩ ⟨r0,eV⟩;obtain ⟨e1,m1,k8,rfl,rfl⟩:=k1;rw[hp];refine ⟨w'.F,w'.g,w'.Y,w'.c,oneOf vs,w'.m.H,w'.m.nx,?_,k2.nx,k7,k2.F,λk hk=>k2.g k ?_,k5,k6,k2.old,λhr=>k2.ro (by show aP (Nat.beq sQ sQ) X.ro (pnL X.IC sQ)=true;rw[show Nat.beq sQ sQ=true from (beq_iff _ _).2 rfl];exact hr)⟩
 rotate_left
 ·show aP (Nat.beq k sQ) X.ro (pnL X.IC k)=true;rw[bG];split
  ·rename_i e;rw[(beq_iff _ _).1 e] at hk;have:mF sQ=false/\evK sQ=false:=⟨rfl,rfl⟩;unfold pnL at hk;rw[this.1,this.2] at hk;cases hk
  ·exact hk
 exact jJ.Iu (fi:= []) (aa:=aa) (ca:= []) h1 h2 h3 (by rw[jV,tM,has.length];exact (bV _ _).1 hn) (ard k3) (by rw[jV,tM];exact k8) k4
def gj.cast {y':AV} (h:km ro E f bs xs y gb) (e:y=y'):km ro E f bs xs y' gb:=e ▸ h
end
def gj.ayx {E:Env} {gb:cL} {xs':bf} {y:AV} (h:km ro E f bs xs y gb) (e:xs=xs'):km ro E f bs xs' y gb:=e ▸ h
def alF {E:Env} {ro':Bool} (e:ro=ro') {gb:cL} {y:AV} (h:km ro E f bs xs y gb):km ro' E f bs xs y gb:=e ▸ h
variable {E:Env} {X:Fx E} {p p':bq} {s s':LS} {y:AV} {gb:cL} {J O R:Type}
def ra (k:At X p' s' y gb) (sc:Sc E) (h:F4 (qv X (.at p' s') p s sc)=F5 (.at p' s') (qv X (.at p' s') p s sc):=by kernel_rfl):At X p s y gb:=aab h k
def rr {f:J->AV} {g:J->cL} {v r:J} (h:some v=some r) (sc:Sc E) (e:F4 (qv X (.ret (f v) (g v)) p s sc)=F5 (.ret (f v) (g v)) (qv X (.ret (f v) (g v)) p s sc):=by kernel_rfl):At X p s (f r) (g r):=by
 cases h;exact ahh e
def cI (k:At X p' s' y gb) (a b:Sc E) (h:F4 (qv X (.at p' s') p s (a++b))=F5 (.at p' s') (qv X (.at p' s') p s (a++b)):=by kernel_rfl):At X p s y gb:=aab h k
def bH {f:J->AV} {g:J->cL} {v r:J} (h:some v=some r) (a b:Sc E) (e:F4 (qv X (.ret (f v) (g v)) p s (a++b))=F5 (.ret (f v) (g v)) (qv X (.ret (f v) (g v)) p s (a++b)):=by kernel_rfl):At X p s (f r) (g r):=rr h (a++b) e
def be {x:Option O} {f:O->Option J} {r:J} (h:x.bind f=some r) (k:∀y,x=some y->f y=some r->G):G:=by
 cases x with
 |none=>simp at h
 |some y=>exact k y rfl h
def ie {x y:Option J} {r:J} (h:(if b=true then x else y)=some r) (k1:b=true->x=some r->G) (k2:b=false->y=some r->G):G:=by
 cases b with
 |true=>exact k1 rfl (by simpa using h)
 |false=>exact k2 rfl (by simpa using h)
def nz {r:J} (h:none=some r):G:=by cases h
def fx (E:Env) (fn:Func) (IC:bq):Fx E:=⟨fn,fn.body.getD .skip,IC,false⟩
def fxR (E:Env) (fn:Func) (IC:bq):Fx E:=⟨fn,fn.body.getD .skip,IC,true⟩
def Cx (E:Env) (k:Nat) (f:R->AV) (g:R->cL) (s:LS) (r:R):Prop:=gj E k s.bs (s.ts.map (·.2)) (f r) (g r)
def ca [Hm E] {r:R} {f:R->AV} {g:R->cL} (h:At X [] s (f r) (g r)) (h1:E.fn.get k=some X.fn:=by kernel_rfl) (h2:X.fn.body=some X.code:=by kernel_rfl) (h3:yM X.fn.name=false:=by kernel_rfl) (h9:Nat.ble (s.ts.map (·.2)).length X.fn.ntmps=true:=by kernel_rfl) (h10:uH s.bs=X.IC:=by kernel_rfl) (h11:(⟨CX 0 (s.ts.map (·.2)),s.bs⟩:LS)=s:=by kernel_rfl) (h0:X.ro=false:=by kernel_rfl):Cx E k f g s r:=
 alF h0 (GY h1 h2 h3 h9 h10 h11 h)
def tZ (sk:bq) (bs:cL):cL:=sk.map λk=>(k,(lk k bs).getD (.map []))
def CxSR (E:Env) (k:Nat) (sk:bq) (f:R->AV) (g:R->cL) (s:LS) (r:R):Prop:=km true E k s.bs (s.ts.map (·.2)) (f r) (g r++tZ sk s.bs)
def caSR [Hm E] {r:R} {f:R->AV} {g:R->cL} (h:At X [] s (f r) (g r++tZ sk s.bs)) (h1:E.fn.get k=some X.fn:=by kernel_rfl) (h2:X.fn.body=some X.code:=by kernel_rfl) (h3:yM X.fn.name=false:=by kernel_rfl) (h9:Nat.ble (s.ts.map (·.2)).length X.fn.ntmps=true:=by kernel_rfl) (h10:uH s.bs=X.IC:=by kernel_rfl) (h11:(⟨CX 0 (s.ts.map (·.2)),s.bs⟩:LS)=s:=by kernel_rfl) (h0:X.ro=true:=by kernel_rfl):CxSR E k sk f g s r:=
 alF h0 (GY h1 h2 h3 h9 h10 h11 h)
def anR {J:Type} (s:List J):Option (J×List J):=match s with| []=>none|x::l=>some (x,l)
def anQ {J:Type} {s:List J} {y:J×List J} (h:anR s=some y):s=y.1::y.2:=by
 cases s with
 |nil=>cases h
 |cons x l=>cases h;rfl
def aKv (k:Nat):AV:=match k with|0=>.pb|n+1=>.fn (n+1) [] []
def Ax (X:Fx E) (f:R->AV) (g:R->cL) (p:bq) (s:LS) (r:R):Prop:=At X p s (f r) (g r)
def K0 (A:LS->R->Prop) (s:LS) (k:Option R):Prop:=∀ ⦃r:R⦄,k=some r->A s r
variable {T0 T1 T2 T3 T4 T5 T6 T7 T8 T9 xl zR C2 HS T14 T15 T16 T17 T18:Type}
def K1 (A:LS->R->Prop) (s:T0->LS) (k:T0->Option R):Prop:=∀ ⦃a⦄,K0 A (s a) (k a)
def K2 (A:LS->R->Prop) (s:T0->T1->LS) (k:T0->T1->Option R):Prop:=∀ ⦃a⦄,K1 A (s a) (k a)
def K3 (A:LS->R->Prop) (s:T0->T1->T2->LS) (k:T0->T1->T2->Option R):Prop:=∀ ⦃a⦄,K2 A (s a) (k a)
def K4 (A:LS->R->Prop) (s:T0->T1->T2->T3->LS) (k:T0->T1->T2->T3->Option R):Prop:=∀ ⦃a⦄,K3 A (s a) (k a)
def K5 (A:LS->R->Prop) (s:T0->T1->T2->T3->T4->LS) (k:T0->T1->T2->T3->T4->Option R):Prop:=∀ ⦃a⦄,K4 A (s a) (k a)
def K6 (A:LS->R->Prop) (s:T0->T1->T2->T3->T4->T5->LS) (k:T0->T1->T2->T3->T4->T5->Option R):Prop:=∀ ⦃a⦄,K5 A (s a) (k a)
def K7 (A:LS->R->Prop) (s:T0->T1->T2->T3->T4->T5->T6->LS) (k:T0->T1->T2->T3->T4->T5->T6->Option R):Prop:=∀ ⦃a⦄,K6 A (s a) (k a)
def K8 (A:LS->R->Prop) (s:T0->T1->T2->T3->T4->T5->T6->T7->LS) (k:T0->T1->T2->T3->T4->T5->T6->T7->Option R):Prop:=∀ ⦃a⦄,K7 A (s a) (k a)
def K9 (A:LS->R->Prop) (s:T0->T1->T2->T3->T4->T5->T6->T7->T8->LS) (k:T0->T1->T2->T3->T4->T5->T6->T7->T8->Option R):Prop:=∀ ⦃a⦄,K8 A (s a) (k a)
def K10 (A:LS->R->Prop) (s:T0->T1->T2->T3->T4->T5->T6->T7->T8->T9->LS) (k:T0->T1->T2->T3->T4->T5->T6->T7->T8->T9->Option R):Prop:=∀ ⦃a⦄,K9 A (s a) (k a)
def K11 (A:LS->R->Prop) (s:T0->T1->T2->T3->T4->T5->T6->T7->T8->T9->xl->LS) (k:T0->T1->T2->T3->T4->T5->T6->T7->T8->T9->xl->Option R):Prop:=∀ ⦃a⦄,K10 A (s a) (k a)
def K12 (A:LS->R->Prop) (s:T0->T1->T2->T3->T4->T5->T6->T7->T8->T9->xl->zR->LS) (k:T0->T1->T2->T3->T4->T5->T6->T7->T8->T9->xl->zR->Option R):Prop:=∀ ⦃a⦄,K11 A (s a) (k a)
def K13 (A:LS->R->Prop) (s:T0->T1->T2->T3->T4->T5->T6->T7->T8->T9->xl->zR->C2->LS) (k:T0->T1->T2->T3->T4->T5->T6->T7->T8->T9->xl->zR->C2->Option R):Prop:=∀ ⦃a⦄,K12 A (s a) (k a)
def K14 (A:LS->R->Prop) (s:T0->T1->T2->T3->T4->T5->T6->T7->T8->T9->xl->zR->C2->HS->LS) (k:T0->T1->T2->T3->T4->T5->T6->T7->T8->T9->xl->zR->C2->HS->Option R):Prop:=∀ ⦃a⦄,K13 A (s a) (k a)
def K15 (A:LS->R->Prop) (s:T0->T1->T2->T3->T4->T5->T6->T7->T8->T9->xl->zR->C2->HS->T14->LS) (k:T0->T1->T2->T3->T4->T5->T6->T7->T8->T9->xl->zR->C2->HS->T14->Option R):Prop:=∀ ⦃a⦄,K14 A (s a) (k a)
def K16 (A:LS->R->Prop) (s:T0->T1->T2->T3->T4->T5->T6->T7->T8->T9->xl->zR->C2->HS->T14->T15->LS) (k:T0->T1->T2->T3->T4->T5->T6->T7->T8->T9->xl->zR->C2->HS->T14->T15->Option R):Prop:=∀ ⦃a⦄,K15 A (s a) (k a)
def K17 (A:LS->R->Prop) (s:T0->T1->T2->T3->T4->T5->T6->T7->T8->T9->xl->zR->C2->HS->T14->T15->T16->LS) (k:T0->T1->T2->T3->T4->T5->T6->T7->T8->T9->xl->zR->C2->HS->T14->T15->T16->Option R):Prop:=∀ ⦃a⦄,K16 A (s a) (k a)
def K18 (A:LS->R->Prop) (s:T0->T1->T2->T3->T4->T5->T6->T7->T8->T9->xl->zR->C2->HS->T14->T15->T16->T17->LS) (k:T0->T1->T2->T3->T4->T5->T6->T7->T8->T9->xl->zR->C2->HS->T14->T15->T16->T17->Option R):Prop:=∀ ⦃a⦄,K17 A (s a) (k a)
def K19 (A:LS->R->Prop) (s:T0->T1->T2->T3->T4->T5->T6->T7->T8->T9->xl->zR->C2->HS->T14->T15->T16->T17->T18->LS) (k:T0->T1->T2->T3->T4->T5->T6->T7->T8->T9->xl->zR->C2->HS->T14->T15->T16->T17->T18->Option R):Prop:=∀ ⦃a⦄,K18 A (s a) (k a)
def rrS {f:J->AV} {g:J->cL} {v r:J} (h:some v=some r) (sc:Sc E) (e:F4 (qv X (.ret (f v) (g v++tZ sk s.bs)) p s sc)=F5 (.ret (f v) (g v++tZ sk s.bs)) (qv X (.ret (f v) (g v++tZ sk s.bs)) p s sc):=by kernel_rfl):At X p s (f r) (g r++tZ sk s.bs):=by
 cases h;exact ahh e
def AxS (X:Fx E) (sk:bq) (f:R->AV) (g:R->cL) (p:bq) (s:LS) (r:R):Prop:=At X p s (f r) (g r++tZ sk s.bs)
def CxS (E:Env) (k:Nat) (sk:bq) (f:R->AV) (g:R->cL) (s:LS) (r:R):Prop:=gj E k s.bs (s.ts.map (·.2)) (f r) (g r++tZ sk s.bs)
def caS [Hm E] {r:R} {f:R->AV} {g:R->cL} (h:At X [] s (f r) (g r++tZ sk s.bs)) (h1:E.fn.get k=some X.fn:=by kernel_rfl) (h2:X.fn.body=some X.code:=by kernel_rfl) (h3:yM X.fn.name=false:=by kernel_rfl) (h9:Nat.ble (s.ts.map (·.2)).length X.fn.ntmps=true:=by kernel_rfl) (h10:uH s.bs=X.IC:=by kernel_rfl) (h11:(⟨CX 0 (s.ts.map (·.2)),s.bs⟩:LS)=s:=by kernel_rfl) (h0:X.ro=false:=by kernel_rfl):CxS E k sk f g s r:=
 alF h0 (GY h1 h2 h3 h9 h10 h11 h)
def raS {g:cL} (k:At X p' s' y (g++tZ sk s'.bs)) (hs:tZ sk s'.bs=tZ sk s.bs) (sc:Sc E) (h:F4 (qv X (.at p' s') p s sc)=F5 (.at p' s') (qv X (.at p' s') p s sc):=by kernel_rfl):At X p s y (g++tZ sk s.bs):=aab h (hs ▸ k)
end
section
def idx {J:Type} (xs:List J) (i:Int):Option J:=if 0<=i then xs[i.toNat]? else none
def app {J:Type} (xs ys:List J):Option (List J):=if xs.length<=1000000/\ys.length<=1000000 then some (xs++ys) else none
def G1 {J:Type} (xs:List J) (n:Nat) (ys:List J):Option (List J):=if n<=xs.length/\n<=1000000/\ys.length<=1000000 then some (xs.take n++ys) else none
def cut {J:Type} (xs:List J) (lo hi:Option Int):Option (List J):=
 if 0<=lo.getD 0/\0<=hi.getD 0/\(lo.getD 0).toNat<=(hi.map Int.toNat).getD xs.length/\(hi.map Int.toNat).getD xs.length<=xs.length then
  some ((xs.take ((hi.map Int.toNat).getD xs.length)).drop (lo.getD 0).toNat) else none
def cat (a b:ByteArray):Option ByteArray:=if a.size+b.size<=1000000 then some (a++b) else none
def Dq (s:ByteArray) (i:Int):Option UInt8:=if 0<=i then s.data.toList[i.toNat]? else none
def quo (k:IntKind) (a b:Int):Option Int:=if b=0 then none else some (k.wrap (a.tdiv b))
def rem (a b:Int):Option Int:=if b=0 then none else some (a.tmod b)
def eZ (n:Nat) (i:Int):bP:=if 0<=i/\i.toNat<n then some i.toNat else none
def setAt {J:Type} (xs:List J) (i:Nat) (x:J):Option (List J):=if i<xs.length then some (xs.set i x) else none
def rz {J:Type} (n:Int) (x:J):Option (List J):=if 0<=n/\n<=1000000 then some (List.replicate n.toNat x) else none
abbrev bl (x:Int):Int:=IntKind.i64.wrap x
structure RowsK {J:Type} (enc:J->bf) (rows:List J->bA):Prop where
 map:∀xs,rows xs=xs.map enc
section
variable {J:Type} {enc:J->bf} {rows:List J->bA} {E:Env}
def RowsK.len (R:RowsK enc rows) (xs:List J):(rows xs).length=xs.length:=by rw[R.map,nQ]
def RowsK.get (R:RowsK enc rows) {xs:List J} {x:J} (h:xs[j]? =some x):(rows xs)[j]? =some (enc x):=by rw[R.map,mH,h];rfl
def RowsK.idx' (R:RowsK enc rows) {xs:List J} {n:Int} {x:J} (h:idx xs n=some x):yW (rows xs) n=some (enc x):=by
 unfold Go.bZ.idx at h;unfold yW;split at h
 ·rename_i h0;rw[aH h0];exact R.get h
 ·cases h
def RowsK.idx (R:RowsK enc rows) {xs:List J} {n:Int} {x:J} (h:idx xs n=some x):It E:=.op (R.idx' h) (.row (enc x) [])
def RowsK.row (R:RowsK enc rows) {xs:List J} {j:Nat} {x:J} (h:xs[j]? =some x):It E:=.op (R.get h) (.row (enc x) [])
def avo {i:Int} (h:eZ n i=some k):i=(k:Int)/\k<n:=by
 unfold eZ at h;split at h
 ·rename_i h0;cases h;exact ⟨by omega,h0.2⟩
 ·cases h
def dO {n:Nat} {i:Int} {k:Nat} (h:eZ n i=some k):It E:=.op (avo h) (.nat k)
def zY {xs zs:List J} {y:J} (h:setAt xs i y=some zs):zs=xs.set i y/\i<xs.length:=by
 unfold setAt at h;split at h
 ·cases h;exact ⟨rfl,by assumption⟩
 ·cases h
def ng {xs zs:List J} {y:J} (h:setAt xs i y=some zs):zs.length=xs.length:=by rw[(zY h).1,mY]
def yd {xs ys zs:List J} (h:app xs ys=some zs):xs.length<=1000000/\ys.length<=1000000/\zs=xs++ys:=by
 unfold app at h;split at h
 ·rename_i h0;cases h;exact ⟨h0.1,h0.2,rfl⟩
 ·cases h
def RowsK.appP (R:RowsK enc rows) {xs ys zs:List J} (h:Go.bZ.app xs ys=some zs):VO true (rows xs) xs.length (rows zs) zs.length (rows ys):=
 ⟨λ_=>(R.len xs).symm,by rw[R.len];exact dg _,(yd h).1,by rw[R.len];exact (yd h).2.1,by rw[<-R.len xs,xv,(yd h).2.2,R.map,R.map,R.map,mw],R.len zs⟩
def RowsK.app (R:RowsK enc rows) {xs ys zs:List J} (h:Go.bZ.app xs ys=some zs):It E:=.op (R.appP h) (.app true (rows ys) (rows zs) zs.length)
def RowsK.kE (R:RowsK enc rows) {xs ys zs:List J} (h:Go.bZ.app xs ys=some zs):It E:=
 .op (P:=VO true (rows xs) xs.length (rows zs) zs.length (rows ys)/\((rows ys).drop 0).take ys.length=rows ys/\0+ys.length<=(rows ys).length) ⟨R.appP h,by rw[rS,<-R.len,xv],by rw[R.len];omega⟩ (.app true (rows ys) (rows zs) zs.length)
def RowsK.fX (R:RowsK enc rows) (K:Nat) (xs:List J):It E:=.gh ⟨R.len xs,.fX K 0 xs.length⟩
end
abbrev eb {E:Env} {a b:Bool} (h:a=b):It E:=.op (bM AV.bool h) (.eqv (.bool b))
def cb {E:Env} {gb:cL} {a:Bool} (h:gj E f bs xs (.bool a) gb) (e:a=b):gj E f bs xs (.bool b) gb:=e ▸ h
def GX {a b c:ByteArray} (h:cat a b=some c):a.size+b.size<=1000000/\a++b=c:=by
 unfold cat at h;split at h
 ·rename_i h0;cases h;exact ⟨h0,rfl⟩
 ·cases h
def aal {b c:Int} (h:rem a b=some c):b≠0/\a.tmod b=c:=by
 unfold rem at h;split at h
 ·cases h
 ·rename_i h0;cases h;exact ⟨h0,rfl⟩
section
variable {E:Env}
variable {s:ByteArray} {c:UInt8} {gb:cL}
def It.nz {y:Int} (h:y≠0):It E:=.op h (.val 0)
def It.cat {x y:ByteArray} (h:x.size+y.size<=1000000):It E:=.op h (.val 0)
def atK {i:Int} (h:Dq s i=some c):(yW s.data.toList i).map UInt8.toNat=some c.toNat:=by
 have h:yW s.data.toList i=some c:=h;rw[h];rfl
def It.chr {s:ByteArray} {i:Int} {c:UInt8} (h:Dq s i=some c):It E:=.op (atK h) (.val c.toNat)
def It.eqv {x y:AV} (h:x=y):It E:=.op h (.eqv y)
def It.laid {b b':Bx} (h:b=b'):It E:=.op (bM some h) (.laid b')
def It.jl (K K':Nat):It E:=.gh ⟨trivial,.jl K K'⟩
def It.born (ts:bq) (cs:List (Nat×Nat)) (K:Nat) (z:Bool) (e sz:Nat):It E:=.gh ⟨trivial,.born ts cs K z e sz⟩
def It.seq (t:Nat) {x y:AV} (h:x=y):It E:=.gh ⟨h,.vis t y⟩
def It.beq (K:Nat) {x y:Bx} (h:x=y):It E:=.gh ⟨h,.bis K y⟩
def It.zJ (t:Nat) (w:AV):It E:=.gh ⟨trivial,.zJ t w⟩
def It.pZ (K:Nat) (w:Bx):It E:=.gh ⟨trivial,.pZ K w⟩
def int_eq {k:IntKind} {b:Int} (h:(a==b)=true):AV.int k a=AV.int k b:=by rw[eq_of_beq h]
def en {k:IntKind} {a b:Int} (h:(a==b)=true):It E:=It.eqv (int_eq (k:=k) h)
def ci {k:IntKind} {b:Int} (h:km ro E f bs xs (.int k a) gb) (e:(a==b)=true):km ro E f bs xs (.int k b) gb:=gj.cast h (int_eq e)
end
end
section
def nilAt {J:Type} (xs:List (List J)) (j:Nat):Option Unit:=match xs[j]? with|some []=>some ()|_=>none
def lJ (a b:Nat):Option Unit:=if a=b then some () else none
def xI {a b:Nat} {u:Unit} (h:lJ a b=some u):a=b:=by
 unfold lJ at h;split at h
 ·assumption
 ·cases h
def tD (n:Nat) (hi:Int):bP:=if 0<=hi/\hi.toNat<=n then some hi.toNat else none
def BI (n:Nat) (lo:Int):bP:=if 0<=lo/\lo.toNat<=n then some lo.toNat else none
def vT (h:tD n hi=some u):hi=(u:Int)/\u<=n:=by
 unfold tD at h;split at h
 ·rename_i h0;cases h;exact ⟨by omega,h0.2⟩
 ·cases h
def Jz (h:BI n lo=some u):lo=(u:Int)/\u<=n:=by
 unfold BI at h;split at h
 ·rename_i h0;cases h;exact ⟨by omega,h0.2⟩
 ·cases h
def aBX {m:Nat} (h:BI n lo=some u) (le:n<=m):0+u+(n-u)<=m:=by
 have:=(Jz h).2;omega
def Ce {J:Type} {xs:List J} (h:u<=xs.length):(xs.take u).length=u:=by rw[dZ];omega
def avf {J:Type} {xs zs:List J} {lo hi:Option Int} (h:cut xs lo hi=some zs):∃l u:Nat,adM (lo.getD 0) (hi.getD (xs.length:Nat)) xs.length l u/\zs=(xs.drop l).take (u-l):=by
 unfold cut at h;split at h
 ·rename_i h0;cases h;obtain ⟨a,b,c,d⟩:=h0;refine ⟨(lo.getD 0).toNat,(hi.map Int.toNat).getD xs.length,⟨by omega,?_,c,d⟩,by rw[tR]⟩
  cases hi with
  |none=>rfl
  |some v=>have:0<=v:=b;show v=((v.toNat:Nat):Int);omega
 ·cases h
def CY {J:Type} {xs ys zs:List J} (h:G1 xs n ys=some zs):n<=xs.length/\n<=1000000/\ys.length<=1000000/\zs=xs.take n++ys:=by
 unfold G1 at h;split at h
 ·rename_i h0;cases h;exact ⟨h0.1,h0.2.1,h0.2.2,rfl⟩
 ·cases h
def th {J:Type} {n:Int} {x:J} {zs:List J} (h:rz n x=some zs):n=(n.toNat:Int)/\n.toNat<=1000000/\zs=List.replicate n.toNat x:=by
 unfold rz at h;split at h
 ·rename_i h0;cases h;exact ⟨by omega,by omega,rfl⟩
 ·cases h
def Nd {J:Type} {n:Int} {x:J} {zs:List J} (h:rz n x=some zs):n.toNat=zs.length:=by rw[(th h).2.2,tQ]
section
variable {J:Type} {enc:J->bf} {rows:List J->bA} {E:Env}
def RowsK.take (R:RowsK enc rows) (xs:List J) (u:Nat):(rows xs).take u=rows (xs.take u):=by rw[R.map,R.map,yB]
def RowsK.isE (R:RowsK enc rows) (xs:List J):(rows xs).isEmpty=xs.isEmpty:=by rw[R.map];cases xs<;>rfl
def AU (h:j<Q.length):Df (Q.set j r) j f xs=some (Q.set j (gu r f xs)):=by
 unfold Df;rw[pr h];show some _=_;rw[vz]
def RowsK.asE (R:RowsK enc rows) {xs:List J} {x:J} (h:xs[j]? =some x):Df (rows xs) j f vs=some ((rows xs).set j (gu (enc x) f vs)):=by unfold Df;rw[R.get h];rfl
def RowsK.asT (R:RowsK enc rows) {xs zs:List J} {y:J} (h:setAt xs j y=some zs) (he:r=enc y):(rows xs).set j r=rows zs:=by rw[(zY h).1,he,R.map,R.map,DJ]
def RowsK.lt (R:RowsK enc rows) {xs:List J} {x:J} (h:xs[j]? =some x):j<(rows xs).length:=by rw[R.len];exact (cf.1 h).1
def RowsK.ltS (R:RowsK enc rows) {xs zs:List J} {y:J} (h:setAt xs j y=some zs):j<(rows xs).length:=by rw[R.len];exact (zY h).2
def YQ {Q Q':bA} {j f:Nat} {vs:bf} (h:Df Q j f vs=some Q'):It E:=.op h (.uE Q')
def RowsK.uE (R:RowsK enc rows) {xs zs:List J} {j:Nat} {x y:J} (f:Nat) (vs:bf) (h0:xs[j]? =some x) (h1:setAt xs j y=some zs) (he:gu (enc x) f vs=enc y:=by kernel_rfl):It E:=YQ (Q:=rows xs) (Q':=rows zs) (j:=j) (f:=f) (vs:=vs) (by rw[R.asE h0,R.asT h1 he])
def RowsK.hol (R:RowsK enc rows) {xs:List J} {j:Nat} {x:J} (f:Nat) (h0:xs[j]? =some x):It E:=YQ (R.asE (f:=f) (vs:= [.undef]) h0)
def RowsK.holF (R:RowsK enc rows) {xs:List J} {j:Nat} {x:J} (f:Nat) (r':bf) (h:xs[j]? =some x) (hr:gu (enc x) f [.undef]=r':=by kernel_rfl):It E:=YQ (Q:=rows xs) (Q':=(rows xs).set j r') (j:=j) (f:=f) (vs:= [.undef]) (by rw[R.asE h,hr])
def RowsK.xV (R:RowsK enc rows) {xs:List J} {j:Nat} {x:J} (f:Nat) (r r':bf) (h:xs[j]? =some x) (hr:gu r f [.undef]=r':=by kernel_rfl):It E:=YQ (Q:=(rows xs).set j r) (Q':=(rows xs).set j r') (j:=j) (f:=f) (vs:= [.undef]) (by rw[AU (R.lt h),hr])
def RowsK.hrwS (R:RowsK enc rows) {xs:List J} {j:Nat} {x:J} (r r':bf) (h:xs[j]? =some x) (hr:gu r 0 r'=r':=by kernel_rfl):It E:=YQ (Q:=(rows xs).set j r) (Q':=(rows xs).set j r') (j:=j) (f:=0) (vs:=r') (by rw[AU (R.lt h),hr])
def RowsK.atS (R:RowsK enc rows) {xs:List J} {x:J} (h:xs[j]? =some x):((rows xs).set j r)[j]? =some r:=pr (R.lt h)
def RowsK.rowS (R:RowsK enc rows) {xs:List J} {j:Nat} {x:J} (r:bf) (h:xs[j]? =some x):It E:=.op (R.atS (r:=r) h) (.row r [])
def RowsK.zg (R:RowsK enc rows) {xs:List J} {j:Nat} {x:J} (fs:bq) (r:bf) (h:xs[j]? =some x):It E:=.op (R.atS (r:=r) h) (.row r fs)
def RowsK.cut (R:RowsK enc rows) {xs zs:List J} {lo hi:Option Int} (h:Go.bZ.cut xs lo hi=some zs):It E:=.op (P:=CutR (rows xs) (lo.getD 0) (hi.getD (xs.length:Nat)) (rows zs) zs.length) (by
 obtain ⟨l,u,h1,rfl⟩:=avf h;exact ⟨l,u,by rw[R.len];exact h1,by rw[R.map,R.map,yB,DW],R.len _⟩) (.cut 0 0 (rows zs) zs.length)
def RowsK.tD (R:RowsK enc rows) {xs:List J} {n u:Nat} {hi:Int} (h:Go.bZ.tD n hi=some u) (le:n<=xs.length):It E:=.op (P:=adM 0 hi n 0 u/\0+n<=(rows xs).length) ⟨⟨rfl,(vT h).1,qF _,(vT h).2⟩,by rw[R.len];omega⟩ (.cut 0 u [] 0)
def RowsK.BI (R:RowsK enc rows) {xs:List J} {n u:Nat} {lo:Int} (h:Go.bZ.BI n lo=some u) (le:n<=xs.length):It E:=.op (P:=adM lo (n:Int) n u n/\0+n<=(rows xs).length) ⟨⟨(Jz h).1,rfl,(Jz h).2,dg _⟩,by rw[R.len];omega⟩ (.cut u n [] 0)
def RowsK.appQ (R:RowsK enc rows) {xs ys zs:List J} (h:Go.bZ.G1 xs n ys=some zs):VO false (rows xs) n (rows zs) zs.length (rows ys):=
 ⟨λh=>(by cases h),by rw[R.len];exact (CY h).1,(CY h).2.1,by rw[R.len];exact (CY h).2.2.1,by rw[(CY h).2.2.2,R.map,R.map,R.map,mw,yB],R.len zs⟩
def RowsK.appB (R:RowsK enc rows) {xs ys zs:List J} {lo m n:Nat} (h:Go.bZ.G1 xs n ((ys.drop lo).take m)=some zs) (hm:lo+m<=ys.length):It E:=
 .op (P:=VO false (rows xs) n (rows zs) zs.length (rows ((ys.drop lo).take m))/\((rows ys).drop lo).take m=rows ((ys.drop lo).take m)/\lo+m<=(rows ys).length) ⟨R.appQ h,by rw[R.map,R.map,yB,DW],by rw[R.len];exact hm⟩ (.app false (rows ((ys.drop lo).take m)) (rows zs) zs.length)
def RowsK.made (R:RowsK enc rows) {n:Int} {x:J} {zs:List J} (h:rz n x=some zs) (sh:dW:= []):It E:=
 .op (P:=MkP n n (enc x) (rows zs) n.toNat) ⟨n.toNat,(th h).1,(th h).1,dg _,(th h).2.1,by rw[(th h).2.2,R.map,List.map_replicate]⟩ (.mk (enc x) (rows zs) n.toNat sh)
def RowsK.aJu (R:RowsK enc rows) {n:Int} {x:J} {zs:List J} (h:rz n x=some zs) (sh:dW:= []):It E:=
 .op (P:=MkP 0 n (enc x) (rows []) 0) ⟨n.toNat,rfl,(th h).1,qF _,(th h).2.1,by rw[R.map];rfl⟩ (.mk (enc x) (rows []) 0 sh)
def It.shr (K:Nat) {Q P:bA} {u:Nat} (h:Q.take u=P):It E:=.gh ⟨h,.shr K u P⟩
def RowsK.Ib (R:RowsK enc rows) {xs ys zs:List J} (h:Go.bZ.app xs ys=some zs):It E:=.op (P:=TapP (rows xs) xs.length) ⟨(R.len xs).symm,(yd h).1⟩ .Ib
def RowsK.apS (R:RowsK enc rows) {xs zs:List J} {y:J} (h:Go.bZ.app xs [y]=some zs):rows xs++ [r]=(rows zs).set xs.length r:=by
 rw[(yd h).2.2,R.map,R.map,mw,xu _ _ (by rw[nQ];exact dg _),nQ,nR]
 rfl
def RowsK.apL (R:RowsK enc rows) {xs zs:List J} {y:J} (h:Go.bZ.app xs [y]=some zs):xs.length+1=zs.length:=by
 rw[(yd h).2.2,gD];rfl
def RowsK.tfr (R:RowsK enc rows) (b:Bool) (K:Nat) (xs:List J):It E:=.gh ⟨R.len xs,.fX K (aP b 2 0) xs.length⟩
def RowsK.frzN (R:RowsK enc rows) {n:Nat} (b:Bool) (K:Nat) (xs:List J) (h:n=xs.length):It E:=.gh ⟨(R.len xs).trans h.symm,.fX K (aP b 2 0) n⟩
def RowsK.noDR (R:RowsK enc rows) (h:∀x,tn (enc x)=true) (xs:List J):avB (rows xs):=λr hr=>by
 rw[R.map] at hr;obtain ⟨x,_,rfl⟩:=cP.1 hr;exact h x
def It.gi (x:It E):GI:=match x with| .gh g=>g|_=>⟨trivial,.jl 0 0⟩
def It.Am {f:Nat} {bs gb:cL} {ys:bf} {y:AV} {P:Prop} (h:gj E f bs ys y gb) (gs:List (It E)) (hd:P) (ps rs:gH) (fz:List (It E):= []):It E:=.Qa h (gs.map It.gi) hd ps rs (fz.map It.gi)
def akl (K K2:Nat) {j f e2 s2 n:Nat} {x:Bool} {Q Q2 Q':bA} (h:avA Q j f x e2 s2 n Q2 Q'):It E:=.gh ⟨h,.opn K K2 j f e2 s2 n Q2 Q'⟩
def clsO (K K2:Nat) {j f n:Nat} {y:AV} {Q Q2 Q':bA} (h:Q2.length=n/\VK Q j f y Q'):It E:=.gh ⟨h,.cls K K2 j f n Q'⟩
def cldO (K:Nat) {j f:Nat} (y:AV) {Q Q':bA} (h:VK Q j f y Q'):It E:=.gh ⟨h,.cld K j f y Q'⟩
variable {O:Type} {lU:List O->bA} {NM:O->bf}
def RowsK.ny (R:RowsK enc rows) (N:RowsK NM lU) {xs:List J} {j:Nat} {x:J} (K K2 f:Nat) (b:Bool) (e' s:Nat) (y:List O) (h:xs[j]? =some x) (r':bf) (hx:(enc x)[f]? =some (wc b e' s y.length (lU y)):=by kernel_rfl) (hr:gu (enc x) f [.undef]=r':=by kernel_rfl):It E:=
 akl (Q:=rows xs) (Q2:=lU y) (Q':=(rows xs).set j r') K K2 ⟨enc x,R.get h,hx,by rw[hr]⟩
def RowsK.uV (R:RowsK enc rows) (N:RowsK NM lU) {xs:List J} {j:Nat} {x:J} {r:bf} (K K2 f:Nat) (b:Bool) (e' s:Nat) (y:List O) (h:xs[j]? =some x) (r':bf) (hx:r[f]? =some (wc b e' s y.length (lU y)):=by kernel_rfl) (hr:gu r f [.undef]=r':=by kernel_rfl):It E:=
 akl (Q:=(rows xs).set j r) (Q2:=lU y) (Q':=(rows xs).set j r') K K2 ⟨r,R.atS h,hx,by rw[hr,vz]⟩
def RowsK.jr (R:RowsK enc rows) (N:RowsK NM lU) {xs zs:List J} {j:Nat} {z:J} {r:bf} (K K2 f:Nat) (b:Bool) (e' s:Nat) (y:List O) (h:setAt xs j z=some zs) (r':bf) (hr:gu r f [wc b e' s y.length (lU y)]=r':=by kernel_rfl):It E:=
 clsO (Q:=(rows xs).set j r) (Q2:=lU y) (Q':=(rows xs).set j r') (y:=wc b e' s y.length (lU y)) K K2 ⟨N.len y,by show Df _ _ _ _=_;rw[AU (R.ltS h),hr]⟩
def RowsK.gQ (R:RowsK enc rows) (N:RowsK NM lU) {xs zs:List J} {j:Nat} {z:J} {r:bf} (K K2 f:Nat) (b:Bool) (e' s:Nat) (y:List O) (h:setAt xs j z=some zs) (hr:gu r f [wc b e' s y.length (lU y)]=enc z:=by kernel_rfl):It E:=
 clsO (Q:=(rows xs).set j r) (Q2:=lU y) (Q':=rows zs) (y:=wc b e' s y.length (lU y)) K K2 ⟨N.len y,by show Df _ _ _ _=_;rw[AU (R.ltS h),R.asT h hr]⟩
def RowsK.clo (R:RowsK enc rows) {xs zs:List J} {j:Nat} {x y:J} (K:Nat) (f:Nat) (q:AV) (u:AV) (h0:xs[j]? =some x) (h1:setAt xs j y=some zs) (he:gu (gu (enc x) f [u]) f [q]=enc y:=by kernel_rfl):It E:=
 cldO (Q:=(rows xs).set j (gu (enc x) f [u])) (Q':=rows zs) K q (by show Df _ _ _ _=_;rw[AU (R.lt h0),R.asT h1 he])
end
def gone (l:dW) (g:Nat) (Q:bA):bA:=(Q.take g).map (F3 l)++Q.drop g
def aEU:Q=gone l 0 Q:=rfl
def abE {g:Nat} (h:Q[g]? =some r):(gone l g Q)[g]? =some r:=by
 have cV:=(cf.1 h).1;unfold gone;rw[nP (by rw[nQ,dZ];omega),nQ,dZ,fc,fE (by omega),nR,mZ]
 exact h
def auv {g:Nat} (h:Q[g]? =some r):(gone l g Q).set g (F3 l r)=gone l (g+1) Q:=by
 have cV:=(cf.1 h).1;have hr:Q[g]=r:=(cf.1 h).2;have hl:((Q.take g).map (F3 l)).length=g:=by rw[nQ,dZ];omega
 unfold gone;rw[xu _ _ (by omega),hl,nR,qE cV,vy,dJ cV,hr]
 simp
section
variable {J O:Type} {enc:J->bf} {rows:List J->bA} {lU:List O->bA} {NM:O->bf} {E:Env}
variable {g:Nat} {r0:bf}
def abF {u:Unit} (hg:lJ j g=some u) (h:Q[j]? =some r0):((gone l g Q).set j r)[j]? =some r:=by
 have:=xI hg;subst this;exact pr (cf.1 (abE h)).1
def RowsK.aCQ (R:RowsK enc rows) (N:RowsK NM lU) {xs:List J} {j g:Nat} {x:J} {u:Unit} (l:dW) (hg:lJ j g=some u) (K K2 f:Nat) (b:Bool) (e' s:Nat) (y:List O) (h:xs[j]? =some x) (r':bf) (hx:(enc x)[f]? =some (wc b e' s y.length (lU y)):=by kernel_rfl) (hr:gu (enc x) f [.undef]=r':=by kernel_rfl):It E:=
 akl (Q:=gone l g (rows xs)) (Q2:=lU y) (Q':=(gone l g (rows xs)).set j r') K K2 ⟨enc x,by have:=xI hg;subst this;exact abE (R.get h),hx,by rw[hr]⟩
def RowsK.anU (R:RowsK enc rows) (N:RowsK NM lU) {xs:List J} {j g:Nat} {x:J} {u:Unit} (l:dW) (hg:lJ j g=some u) (r:bf) (K K2 f:Nat) (b:Bool) (e' s:Nat) (y:List O) (h:xs[j]? =some x) (r':bf) (hx:r[f]? =some (wc b e' s y.length (lU y)):=by kernel_rfl) (hr:gu r f [.undef]=r':=by kernel_rfl):It E:=
 akl (Q:=(gone l g (rows xs)).set j r) (Q2:=lU y) (Q':=(gone l g (rows xs)).set j r') K K2 ⟨r,abF hg (R.get h),hx,by rw[hr,vz]⟩
def RowsK.aJm (R:RowsK enc rows) {xs:List J} {j g:Nat} {x:J} {u:Unit} (l:dW) (hg:lJ j g=some u) (fs:bq) (r:bf) (h:xs[j]? =some x):It E:=.op (abF (l:=l) (r:=r) hg (R.get h)) (.row r fs)
def RowsK.akZ (R:RowsK enc rows) {xs zs:List J} {z:J} {u:Unit} (hg:lJ j g=some u) (h:setAt xs j z=some zs) (hr:F3 l (enc z)=r:=by kernel_rfl):(gone l g (rows xs)).set j r=gone l (g+1) (rows zs):=by
 have:=xI hg;subst this;obtain ⟨e,cV⟩:=zY h;have hz:zs[j]? =some z:=by rw[e,pr cV]
 rw[<-auv (R.get hz),hr];have e2:gone l j (rows zs)=(gone l j (rows xs)).set j (enc z):=by
  have hl:(rows xs).length=xs.length:=R.len xs;unfold gone;rw[e,R.map,DJ,<-R.map,List.take_set_of_le (dg _)];rw[xu _ _ (by rw[nQ,dZ];omega),nQ,dZ,fE (by omega),nR]
  rw[List.drop_set,aM (by omega),nR]
 rw[e2,vz]
end
def mC {O:Type} (m:List (ByteArray×O)) (k:ByteArray) (d:O):O:=match m with| []=>d|p::m=>if k=p.1 then p.2 else mC m k d
def nh {O:Type} (m:List (ByteArray×O)) (k:ByteArray) (v:O):List (ByteArray×O):=match m with| []=> [(k,v)]|p::m=>if k=p.1 then (k,v)::m else p::nh m k v
def gN {O:Type} (f:O->AV) (m:List (ByteArray×O)):List (AV×AV):=m.map λp=>(.str p.1,f p.2)
def Wi {O:Type} {f:O->AV} {k:ByteArray} {d:O}:∀m:List (ByteArray×O),∃r,qA (.str k) (gN f m)=some r/\PT false (some (f d)) r=some (f (mC m k d))
 | []=>⟨none,rfl,rfl⟩
 |p::m=>by
  obtain ⟨r,h1,h2⟩:=Wi (f:=f) (k:=k) (d:=d) m;have step:qA (.str k) (gN f (p::m))=(match some (decide (k=p.1)) with
   |some true=>some (some (0,f p.2))
   |some false=>(match qA (.str k) (gN f m) with|some (some q)=>some (some (q.1+1,q.2))|r=>r)
   |none=>none):=rfl
  by_cases hk:k=p.1
  ·refine ⟨some (0,f p.2),by rw[step];simp[hk],?_⟩
   show some (f p.2)=some (f (mC (p::m) k d));unfold mC;rw[aH hk]
  ·have hg:mC (p::m) k d=mC m k d:=by rw[mC,aM hk]
   rw[hg];cases r with
   |none=>exact ⟨none,by rw[step];simp[hk,h1],h2⟩
   |some q=>exact ⟨some (q.1+1,q.2),by rw[step];simp[hk,h1],h2⟩
def Jr {O:Type} {f:O->AV} {k:ByteArray} {v:O}:∀m:List (ByteArray×O),∃r,qA (.str k) (gN f m)=some r/\YH (gN f m) (.str k) (f v) r=gN f (nh m k v)
 | []=>⟨none,rfl,rfl⟩
 |p::m=>by
  obtain ⟨r,h1,h2⟩:=Jr (f:=f) (k:=k) (v:=v) m;have step:qA (.str k) (gN f (p::m))=(match some (decide (k=p.1)) with
   |some true=>some (some (0,f p.2))
   |some false=>(match qA (.str k) (gN f m) with|some (some q)=>some (some (q.1+1,q.2))|r=>r)
   |none=>none):=rfl
  by_cases hk:k=p.1
  ·refine ⟨some (0,f p.2),by rw[step];simp[hk],?_⟩
   unfold nh;rw[aH hk];rfl
  ·have hg:nh (p::m) k v=p::nh m k v:=by rw[nh,aM hk]
   rw[hg];have hc:gN f (p::nh m k v)=(.str p.1,f p.2)::gN f (nh m k v):=rfl;have Jf:gN f (p::m)=(.str p.1,f p.2)::gN f m:=rfl;cases r with
   |none=>exact ⟨none,by rw[step];simp[hk,h1],by rw[hc,<-h2,Jf];rfl⟩
   |some q=>exact ⟨some (q.1+1,q.2),by rw[step];simp[hk,h1],by rw[hc,<-h2,Jf];rfl⟩
def Aj {k:ByteArray} {m:List (ByteArray×Bool)} (h:mC m k d=b):∃r,qA (.str k) (gN AV.bool m)=some r/\PT false (some (.bool d)) r=some (.bool b):=h ▸ Wi m
def It.lkp {E:Env} {es:List (AV×AV)} {k x z:AV} (ok:Bool) (h:∃f,qA k es=some f/\PT ok (some z) f=some x):It E:=.op h (.lkp x [])
def It.lR {E:Env} {es CH:List (AV×AV)} {k x:AV} (h:∃f,qA k es=some f/\YH es k x f=CH):It E:=.op h (.lkp .undef CH)
def It.nxt {E:Env} {b:ByteArray} {pos:Nat} (h:pos<b.size):It E:=.op h (.val 1)
def It.fin {E:Env} {b:ByteArray} {pos:Nat} (h:¬pos<b.size):It E:=.op h (.val 0)
def It.fX {E:Env} {Q:bA} {n:Nat} (K:Nat) (h:Q.length=n):It E:=.gh ⟨h,.fX K 0 n⟩
def cd {E:Env} {sz:Nat} {gb:cL} (h:gj E f bs xs (.ms K sz 0 n) gb) (hq:Q.length=n) (hl:lk K gb=some (.rows z e sz Q):=by kernel_rfl) (hb:UX K sz gb= []:=by kernel_rfl):
  gj E f bs xs (zq 0 n (.rows z e sz Q) sz 0) (LS.abI ⟨[],gb⟩ K 0 n (.rows z e sz Q)).bs:=.mk λr eV has=>by
 obtain ⟨F',g',φ',c',v,H',nx',h1,h2,h3,h4,h5,h6,h7,h8,_⟩:=h.go r eV has;have r0:=h7.put (some 0) λ_=>h6
 have kk:Nat.beq K K=true:=(beq_iff _ _).2 rfl;have ss:Nat.beq sz sz=true:=(beq_iff _ _).2 rfl;have ho:iA (abH ((⟨[],gb⟩:LS).put (some 0) (.ms K sz 0 n)) K n (.rows z e sz Q) λP=>⟨P,True,trivial⟩):=by
  refine ⟨hq,?_⟩;show iA ((((aP (Nat.beq K K&&(Nat.beq sz sz&&Nat.beq 0 0)) [n] [])++ [])++UX K sz gb).map _);rw[hb,kk,ss];exact ⟨hq,trivial⟩
 obtain ⟨F2,c2,a1,_,r2⟩:=r0.fX (m:=0) (λ_=>rfl) hl ho
 have e0:GG K (zq 0 n (.rows z e sz Q)) (GF (.rows z e sz Q)) (.ms K sz 0 n)=zq 0 n (.rows z e sz Q) sz 0:=by
  show aP (Nat.beq K K) _ _=_;rw[kk]
 have cY:zq 0 n (.rows z e sz Q) sz 0≠ .undef:=by
  show aP (Nat.beq sz sz&&Nat.beq 0 0) _ _≠_;rw[ss];exact λh=>by cases h
 obtain ⟨v',v1,v2⟩:=r2.tm 0 (GG K (zq 0 n (.rows z e sz Q)) (GF (.rows z e sz Q)) (.ms K sz 0 n)) (show lk 0 [((0:Nat),_)]=some _ from by rw[dy,aH rfl]) (by rw[e0];exact cY)
 obtain rfl:v=v':=by simpa[jg] using v1
 rw[e0] at v2;exact ⟨F2,g',φ',c2,v,H',nx',h1,h2,h3,h4.trans a1,h5,v2,{r2 with tm:=λt x hx=>(by cases hx)},h8,λh=>by cases h⟩
def gj.res {E:Env} {gb:cL} {y:AV} (w:AV) (h:km ro E f bs xs y gb):km ro E f bs xs (cv w y) gb:=.mk λr eV has=>by
 obtain ⟨F',g',φ',c',v,H',nx',h1,h2,h3,h4,h5,h6,h7,h8⟩:=h.go r eV has;exact ⟨F',g',φ',c',v,H',nx',h1,h2,h3,h4,h5,CK h6,h7,h8⟩
end
section
variable {F F':Hf} {g g':Gb} {Y:Nat->Ow} {c:Nat->bP} {s s':LS} {T:Tf} {H:Hf} {E:Env}
variable {B:Nat} {e2:TypeId} {Ig:aY} {V:bA} {y:AV}
def Gi {c nx:Nat} (hP:Ap E k c) {lQ:dN} (ho:qw E c H nx aa=some (v,lQ)):oA E false (.fn (.func k) [] []) aa H nx v (gx H lQ) (nx+1):=λm g w u us hE hr eQ hu jG=>by
 cases hu with
 | @fn _ first eG _ _ pO qX=>
 have qz:j6 g (first.toList++us++eG.toList) ([]++aa++ []):=(pO.append jG).append qX
 rw[jV,tM] at qz;have ph:first++us.toArray++eG=(first.toList++us++eG.toList).toArray:=by apply uC;simp
 obtain ⟨qo,PQ⟩:=V9 hE hP hr (eQ nx (dg _)) qz ho m;refine ⟨{target:=.fn (.func k) eG,args:=first++us.toArray},rfl,.inl ⟨k,first++us.toArray++eG,GD qo _ w,?_⟩⟩
 rw[ph];refine CallsIn.mono PQ ?_;rintro e w' ⟨r,g',rfl,hp⟩;exact ⟨r,rfl,g',hp.val,hp.hr,hp.fr,λx hx=>hp.ro x (by omega),λx hx=>by rw[hp.ro x (by omega)];exact eQ x (by omega)⟩
def Gk {s:Nat} (h:VA F g v (.ms K s 0 n)) (hn:0<n):(g K).b=true/\v= .sl (g K).n 0 n (g K).c:=by
 cases h with
 |rl _ hb=>omega
 |ms _ _ _ hb=>exact ⟨hb,by rw[lT];cases (g K).c<;>rfl⟩
 |xb _ _ hl=>omega
def U0 {s:Nat} (hb:(g K).b=true):VA F g (.sl (g K).n 0 n (g K).c) (.ms K s 0 n):=by
 have:=VA.ms (F:=F) (g:=g) (K:=K) s 0 n hb;rw[lT,show FX (g K).c 0=(g K).c from by cases (g K).c<;>rfl] at this
 exact this
def TR.cut {s:Nat}:∀{l vs Q L} (n:Nat),TR F l vs Q L->(∀r∈Q,r.length=s)->∃A B,L=A++B/\TR F l (vs.take (n*s)) (Q.take n) A/\TR F l (vs.drop (n*s)) (Q.drop n) B
 |_,_,_,L,0,q,_=>⟨[],L,rfl,by simpa using .nil,by simpa using q⟩
 |_,_,_,_,n+1,.nil,_=>⟨[],[],rfl,by simpa using .nil,by simpa using .nil⟩
 |l,_,_,_,n+1,.cons (vs:=vs) (a:=a) q t,hu=>by
  obtain ⟨A,B,h1,h2,h3⟩:=t.cut n λr hr=>hu r (fM _ hr)
  subst h1;have hl:vs.length=s:=by rw[q.length];exact hu _ jo
  have e:(n+1)*s=vs.length+n*s:=by rw[gA,pq,hl];omega
  refine ⟨a++A,B,(lu ..).symm,?_,?_⟩
  ·rw[e,DV,SD];exact .cons q h2
  ·rw[e,agf,List.drop_succ_cons];exact h3
def rb {a b:Nat} (h:a<=b):Nat.ble a b=true:=(bV _ _).2 h
def aBW {id sz:Nat} {cp:Cp} (hf:H id=some (SO.cells e svs)) (hi:i<j) (hj:j<=n) (hl:n*sz<=svs.length):
  abX sz H [.sl id 0 n cp,.int .i64 (.lit (i:Int)),.int .i64 (.lit (j:Int))]=some (.sl id 0 (n-(j-i)) cp,[(id,some (SO.cells e (zr (i*sz) (j*sz) (n*sz) svs)))]):=by
 show rP (some i) (some j) (nk (H id)) (λi j p=>aP (Nat.ble (Nat.succ i) j&&(Nat.ble j n&&Nat.ble (Nat.add 0 (Nat.mul n sz)) p.2.length)) (some (SV.sl id 0 (Nat.sub n (Nat.sub j i)) cp,[(id,some (SO.cells p.1 (zr (Nat.add 0 (Nat.mul i sz)) (Nat.add 0 (Nat.mul j sz)) (Nat.add 0 (Nat.mul n sz)) p.2)))])) none)=_
 rw[hf];show aP (Nat.ble (Nat.succ i) j&&(Nat.ble j n&&Nat.ble (Nat.add 0 (n*sz)) svs.length)) _ none=_;rw[rb hi,rb hj,show Nat.add 0 (n*sz)=n*sz from cC _,rb hl];simp only[Nat.add_eq,Nat.mul_eq,Nat.sub_eq,cC];rfl
def arh {C:Nat} (h1:A<=B) (h2:B<=C) (h3:C<=svs.length):(zr A B C svs).take (A+(C-B))=(svs.take C).take A++(svs.take C).drop B:=by
 have e0:zr A B C svs=svs.take A++((svs.drop B).take (C-B)++(List.replicate (B-A) SV.undef++svs.drop C)):=rfl;have e1:(svs.take A).length=A:=by simp;omega
 have e2:((svs.drop B).take (C-B)).length=C-B:=by simp;omega
 have e3:(svs.take C).take A=svs.take A:=by rw[oB,fE (by omega)]
 have e4:(svs.take C).drop B=(svs.drop B).take (C-B):=by rw[tR]
 rw[e0,e3,e4,<-lu,DU (by rw[gD,e1,e2])]
def P9 {s n' len:Nat} {c:Cp} (hc:yv e s n len c) (h:n'<=n):yv e s n' len c:=by
 cases c with
 |k m=>exact ⟨by have:=hc.1;omega,hc.2⟩
 |u e'=>exact ⟨hc.1,by have:=kJ s h;have:=hc.2;omega⟩
def Rel.wr0 {b b':Bx} {id nx:Nat} (r:Rel F g Y c ⟨[],[(0,b)]⟩ noT H) (eV:∀x,nx<=x->H x=none) (iI:H id≠none) (hc:c id=some 0) (hb:eH F g 0 b' L') (nd:(L'.map (·.1)).Nodup) (hL:∀p∈L',p=(id,o')\/p.1≠id/\H p.1=some p.2/\c p.1=some 0):
  ∃φ' c',(∀x,nx+1<=x->jk H (id,some o') x=none)/\Rel F g φ' c' ⟨[],[(0,b')]⟩ noT (jk H (id,some o'))/\∀x,x<nx->jk H (id,some o') x≠none->H x≠none:=by
 have hn:∀x,x≠id->jk H (id,some o') x=H x:=λx hx=>aM hx
 have lt:id<nx:=xA λh=>iI (eV _ h)
 obtain ⟨c',h1,_⟩:=r.chg (K:=0) (b':=b') (L':=L') (H':=jk H (id,some o')) hb nd (λp hp=>(hL p hp).elim (λe=>e ▸ ⟨aH rfl,.inl hc⟩) λh=>⟨(hn _ h.1).trans h.2.1,.inl h.2.2⟩) (λi hi=>.inl (nu λh=>hi (hn i λe=>h (e ▸ hc)))) (.inl rfl)
 refine ⟨_,c',λx hx=>(hn x (by omega)).trans (eV x (by omega)),h1.sub (λt x h=>(by cases h)) λk b h=> ?_,λx hx cY=> ?_⟩
 ·show lk k [(0,b'),(0,_)]=_;rw[dy] at h ⊢;split
  ·rename_i e;rw[aH e] at h;exact h
  ·rename_i e;rw[aM e] at h;cases h
 ·by_cases e:x=id
  ·exact e ▸ iI
  ·rwa[hn x e] at cY
def gj.del {c sz:Nat} {ie:TI} (hP:Ap E k c) (h9:Nat.ble 1048576 c=false) (h0:Nat.div c 2=e) (h1:Nat.beq (Nat.mod c 2) 0=true) (hie:E.ty.get e=some ie) (hs:ie.size=sz) (hn:Q.length=n) (hi:i<j) (hj:j<=n):
  gj E k [(0,.cy false e sz l Q [])] [.ms 0 sz 0 n,.int .i64 (i:Int),.int .i64 (j:Int)] (.ms 0 sz 0 (n-(j-i))) [(0,.cy false e sz l (Q.take i++Q.drop j) [])]:=.mk λ{F g Y c0 H nx aa} r eV has=>by
 cases has with|cons q1 t1=>
 cases t1 with|cons q2 t2=>
 cases t2 with|cons q3 t3=>
 cases t3;obtain ⟨hb,rfl⟩:=Gk q1 (by omega)
 cases q2;cases q3;have hlk:lk 0 [((0:Nat),Bx.cy false e sz l Q [])]=some (.cy false e sz l Q []):=by rw[dy,aH rfl]
 rcases r.cy hlk with ⟨_,_,mQ,_⟩|⟨_,svs,L,hφ,hH,_,hu,jh,q,_⟩
 ·rw[hb] at mQ;cases mQ
 obtain ⟨_,nd,own⟩:=r.bx 0 _ hlk;rw[hφ] at nd own;subst hn;have hl:=ou jh;have hA:i*sz<=j*sz:=kJ _ (by omega)
 have hB:j*sz<=Q.length*sz:=kJ _ hj;have ho:qw E c H nx [.sl (g 0).n 0 Q.length (g 0).c,.int .i64 (.lit (i:Int)),.int .i64 (.lit (j:Int))]=some (.sl (g 0).n 0 (Q.length-(j-i)) (g 0).c,[((g 0).n,some (SO.cells e (zr (i*sz) (j*sz) (Q.length*sz) svs)))]):=by
  unfold qw;rw[h9];show az (E.ty.get (Nat.div c 2)) _=_;rw[h0,hie];show aP (Nat.beq (Nat.mod c 2) 0) (abX ie.size H _) _=_;rw[h1,hs];exact aBW hH hi hj hl
 obtain ⟨A,B,e1,a1,a2⟩:=q.cut j hu;obtain ⟨A1,A2,rfl,b1,b2⟩:=a1.cut i λr hr=>hu r (qC hr)
 rw[oB,fE hA,show (Q.take j).take i=Q.take i by rw[oB,fE (by omega)]] at b1
 have Dr:(A1++B).Sublist L:=by
  rw[e1];exact List.Sublist.append (List.sublist_append_left _ _) (.refl _)
 have r1:(Q.take i++Q.drop j).length=Q.length-(j-i):=by simp;omega
 have r3:(Q.length-(j-i))*sz=i*sz+(Q.length*sz-j*sz):=by rw[show Q.length-(j-i)=i+(Q.length-j) by omega,gA,yA]
 have iI:=(own ((g 0).n,_) jo);have key:=r.wr0 (b':=.cy false e sz l (Q.take i++Q.drop j) []) (id:=(g 0).n) (o':=SO.cells e (zr (i*sz) (j*sz) (Q.length*sz) svs)) (L':=((g 0).n,SO.cells e (zr (i*sz) (j*sz) (Q.length*sz) svs))::(A1++B)) eV (by rw[hH];simp) iI.2 (.cy hb (λh=>by cases h) (λr hr=> ?_) ?_ ?_ λp hp=>by cases hp) ?_ λp hp=> ?_
 ·obtain ⟨φ',c',k1,k2,k3⟩:=key;exact ⟨F,g,φ',c',_,_,nx+1,Gi hP ho,xz _,k1,.refl _,λ_ _=>rfl,U0 hb,k2,k3,λh=>by cases h⟩
 ·rcases eO.1 hr with hr|hr
  ·exact hu r (qC hr)
  ·exact hu r (pE hr)
 ·rw[r1,avd hA hB hl];exact P9 jh (by omega)
 ·rw[r1,r3,arh hA hB hl];exact b1.append a2
 ·exact ((Dr.cons_cons _).map _).nodup nd
 ·rcases cH.1 hp with e|hp
  ·exact .inl e
  ·have hp:=Dr.subset hp;exact .inr ⟨λe=>(pt.1 nd).1 (cP.2 ⟨p,hp,e⟩),own p (fM _ hp)⟩
def aBO {id Cz q sz new:Nat} {c c2:Cp} (hf:H id=some (SO.cells e svs)) (hf2:H Cz=some (SO.cells e2 Ig)) (hi:i<=n) (hq:0<q) (xf:n<=1000000) (hq6:q<=1000000) (cY:id≠Cz) (hl:n*sz<=svs.length) (ED:q*sz<=Ig.length) (hc:alG 0 svs.length sz c=true):
  abd e sz H new [.sl id 0 n c,.int .i64 (.lit (i:Int)),.sl Cz 0 q c2]=some (.sl new 0 (n+q) (.u e),[(id,none),(new,some (SO.cells e (zp (svs.take (n*sz)) (i*sz) (Ig.take (q*sz)))))]):=by
 show rP (some i) (nk (H id)) (nk (H Cz)) (λi p p2=>aP (Nat.ble i n&&(Nat.ble 1 q&&(Nat.ble n 1000000&&(Nat.ble q 1000000&&(!Nat.beq id Cz&&(Nat.beq p.1 e&&(Nat.ble (Nat.add 0 (Nat.mul n sz)) p.2.length&&(Nat.ble (Nat.add 0 (Nat.mul q sz)) p2.2.length&&alG 0 p.2.length sz c)))))))) (some (SV.sl new 0 (Nat.add n q) (.u e),[(id,none),(new,some (SO.cells e (zp ((p.2.drop 0).take (Nat.mul n sz)) (Nat.mul i sz) ((p2.2.drop 0).take (Nat.mul q sz)))))])) none)=_
 rw[hf,hf2];show aP (Nat.ble i n&&(Nat.ble 1 q&&(Nat.ble n 1000000&&(Nat.ble q 1000000&&(!Nat.beq id Cz&&(Nat.beq e e&&(Nat.ble (Nat.add 0 (Nat.mul n sz)) svs.length&&(Nat.ble (Nat.add 0 (Nat.mul q sz)) Ig.length&&alG 0 svs.length sz c)))))))) _ none=_;rw[show Nat.add 0 (Nat.mul n sz)=n*sz from cC _,show Nat.add 0 (Nat.mul q sz)=q*sz from cC _];rw[rb hi,rb hq,rb xf,rb hq6,rb hl,rb ED,hc,(beq_iff _ _).2 rfl,show Nat.beq id Cz=false from Bool.eq_false_iff.2 λh=>cY ((beq_iff _ _).1 h)]
 rfl
def gj.ins {c sz q:Nat} {ie:TI} (hP:Ap E k c) (h9:Nat.ble 1048576 c=false) (h0:Nat.div c 2=e) (h1:Nat.beq (Nat.mod c 2) 0=false) (hie:E.ty.get e=some ie) (hs:ie.size=sz) (hn:Q.length=n) (hq:V.length=q) (hi:i<=n) (hn0:0<n) (hq0:0<q) (xf:n<=1000000) (hq6:q<=1000000):
  gj E k [(2,.rows z e2 sz V),(4294967296,.rows false e sz Q)] [.ms 4294967296 sz 0 n,.int .i64 (i:Int),.ms 2 sz 0 q] (.ms 4294967296 sz 0 (n+q)) [(4294967296,.rows false e sz (Q.take i++V++Q.drop i)),(2,.rows z e2 sz V)]:=.mk λ{F g Y c0 H nx aa} r eV has=>by
 generalize hK:(4294967296:Nat)=K at*;have hK2:K≠2:=by rw[<-hK];decide
 have hpn:pnL (uH [(2,Bx.rows z e2 sz V),(K,Bx.rows false e sz Q)]) K=false:=by rw[<-hK];rfl
 cases has with|cons q1 t1=>
 cases t1 with|cons q2 t2=>
 cases t2 with|cons q3 t3=>
 cases t3;obtain ⟨hb,rfl⟩:=Gk q1 hn0;obtain ⟨EI,rfl⟩:=Gk q3 hq0;cases q2;have hlk:lk K [((2:Nat),Bx.rows z e2 sz V),(K,Bx.rows false e sz Q)]=some (.rows false e sz Q):=by rw[dy,aM hK2,dy,aH rfl]
 have hlk2:lk 2 [((2:Nat),Bx.rows z e2 sz V),(K,Bx.rows false e sz Q)]=some (.rows z e2 sz V):=by rw[dy,aH rfl]
 rcases r.cy hlk with ⟨_,_,mQ,_⟩|⟨_,svs,L,hφ,hH,_,hu,jh,w1,_⟩
 ·rw[hb] at mQ;cases mQ
 rcases r.cy hlk2 with ⟨_,_,mQ,_⟩|⟨_,Ig,L2,hφ2,hH2,_,hu2,axI,w2,_⟩
 ·rw[EI] at mQ;cases mQ
 have own:=(r.bx K _ hlk).2.2;have aaw:=(r.bx 2 _ hlk2).2.2;rw[hφ] at own;rw[hφ2] at aaw;have cK:=(own (_,_) jo).2;have c2:=(aaw (_,_) jo).2;subst hn;subst hq;have hl:=ou jh;have ED:=ou axI;have cY:(g K).n≠(g 2).n:=λe=>by
  have cK:c0 (g K).n=some K:=cK;have c2:c0 (g 2).n=some 2:=c2;rw[e,c2] at cK;exact hK2 (kW cK).symm
 have il:i*sz<=Q.length*sz:=kJ _ hi;have ho:qw E c H nx [.sl (g K).n 0 Q.length (g K).c,.int .i64 (.lit (i:Int)),.sl (g 2).n 0 V.length (g 2).c]=some (.sl nx 0 (Q.length+V.length) (.u e),[((g K).n,none),(nx,some (SO.cells e (zp (svs.take (Q.length*sz)) (i*sz) (Ig.take (V.length*sz)))))]):=by
  unfold qw;rw[h9];show az (E.ty.get (Nat.div c 2)) _=_;rw[h0,hie];show aP (Nat.beq (Nat.mod c 2) 0) _ (abd e ie.size H nx _)=_;rw[h1,hs];refine aBO hH hH2 hi hq0 xf hq6 cY hl ED ?_;cases hκ:(g K).c with
  |k m=>
   rw[hκ] at jh;show Nat.ble (Nat.add 0 (Nat.mul m sz)) svs.length=true;rw[jh.2];exact rb (by show 0+m*sz<=_;omega)
  |u e'=>rfl
 have eQ:=eV nx (dg _);generalize hX:zp (svs.take (Q.length*sz)) (i*sz) (Ig.take (V.length*sz))=X at ho;have hXe:X=((svs.take (Q.length*sz)).take (i*sz))++(Ig.take (V.length*sz)++(svs.take (Q.length*sz)).drop (i*sz)):=hX.symm;let H':Hf:=jk (jk H ((g K).n,none)) (nx,some (SO.cells e X));have GB:∀x,x≠(g K).n->x≠nx->H' x=H x:=λx h1 h2=>by
  show (if x=nx then _ else if x=(g K).n then _ else H x)=_
  rw[aM h2,aM h1]
 have Bp:(Q.take i++V++Q.drop i).length=Q.length+V.length:=by simp;omega
 have hru:∀r∈Q.take i++V++Q.drop i,r.length=sz:=λr hr=>by
  rcases eO.1 hr with hr|hr
  ·rcases eO.1 hr with hr|hr
   ·exact hu r (qC hr)
   ·exact hu2 r hr
  ·exact hu r (pE hr)
 have hXl:X.length=(Q.length+V.length)*sz:=by
  rw[hXe];simp only[gD,dZ,iE,gA];rw[fE hl,fE ED,fE il];omega
 have hXv:dz F lz X (Q.take i++V++Q.drop i).flatten:=by
  rw[hXe,List.flatten_append,List.flatten_append,lu,Jp hu,CG hu];exact (w1.dat.take _).append (w2.dat.append (w1.dat.drop _))
 let g':Gb:=lR g K ⟨nx,.u e,true⟩;have gK:g' K=⟨nx,.u e,true⟩:=aH rfl;obtain ⟨c',k1,_⟩:=r.chg (K:=K) (g':=g') (b':=.rows false e sz (Q.take i++V++Q.drop i)) (L':= [(nx,.cells e X)]) (H':=H') (by
   have:=eH.cy (F:=F) (g:=g') (K:=K) (z:=false) (e:=e) (s:=sz) (l:= []) (Q:=Q.take i++V++Q.drop i) (o:= []) (svs:=X) (by rw[gK]) (λh=>by cases h) hru (by rw[gK,Bp,hXl];exact ⟨rfl,dg _⟩) (.uG hru (by rw[Bp,<-hXl,xv];exact hXv)) λp hp=>by cases hp
   rwa[gK] at this) (by simp) (λp hp=>by rw[ez.1 hp];exact ⟨aH rfl,.inr eQ⟩)
  (λx hx=>by
   by_cases h1:x=(g K).n
   ·exact .inl (h1 ▸ cK)
   ·by_cases h2:x=nx
    ·exact .inr (h2 ▸ eQ)
    ·exact absurd (GB x h1 h2) hx)
  (.inr ⟨⟨λt x h=>(by cases h),λk b hk h=>by
   rw[dy] at h;split at h
   ·cases h;exact λhm=>by cases hm
   ·rw[dy] at h;split at h
    ·rename_i e;exact absurd e hk
    ·cases h⟩,λk hk=>aM hk⟩)
 refine ⟨F,g',_,c',_,H',nx+1,Gi hP ho,xz _,λx hx=> ?_,.refl _,λk hk=>aM λe=>(by rw[e,hpn] at hk;cases hk),?_,k1.sub (λt x h=>(by cases h)) λk b h=> ?_,λx hx h=> ?_,λh=>by cases h⟩
 ·by_cases h1:x=(g K).n
  ·have:H (g K).n=some _:=hH;rw[<-h1,eV x (by omega)] at this;cases this
  ·exact (GB x h1 (by omega)).trans (eV x (by omega))
 ·have:=U0 (F:=F) (g:=g') (K:=K) (s:=sz) (n:=Q.length+V.length) (by rw[gK])
  rw[gK] at this;exact this
 ·show lk k [(K,_),(2,_),(K,_)]=_;rw[dy] at h ⊢;split
  ·rename_i e;rw[aH e] at h;exact h
  ·rename_i e;rw[aM e] at h;rw[dy] at h ⊢;split
   ·rename_i e;rw[aH e] at h;exact h
   ·rename_i e;rw[aM e] at h;cases h
 ·by_cases h1:x=(g K).n
  ·rw[h1];have:H (g K).n=some _:=hH;rw[this];simp
  ·rwa[GB x h1 (by omega)] at h
def sP (xs:List Int):bA:=xs.map λx=> [AV.int .i64 x]
def Ad (z:Bool) (xs:List Int):List Int:=aP z (lI xs) (kT xs)
def ajL (x:Int) (xs:List Int):(sP (x::xs)).flatten=AV.int .i64 x::(sP xs).flatten:=rfl
def aae:∀xs:List Int,dz F g (mI xs) (sP xs).flatten
 | []=>.nil
 |x::xs=>.cons (.lit _) (aae xs)
def V4:∀{xs:List Int} {vs:aY},dz F g vs (sP xs).flatten->vs=mI xs
 | [],vs,h=>by cases h;rfl
 |x::xs,vs,h=>by
  rw[ajL] at h;cases h with|cons q t=>
  cases q;rw[V4 t];rfl
def PF:∀xs:List Int,Lu (mI xs)=some xs
 | []=>rfl
 |x::xs=>by
  show bU (akt (.int .i64 (.lit x))) (Lu (mI xs)) (λx r=>some (x::r))=_
  rw[PF xs];rfl
def akD (z:Bool) (xs:List Int) (l:aY):(mI (Ae z xs)++l).take (Ad z xs).length=mI (Ad z xs):=by
 cases z
 ·show (mI (kT xs++List.replicate (xs.length-(kT xs).length) 0)++l).take (kT xs).length=mI (kT xs);have e:mI (kT xs++List.replicate (xs.length-(kT xs).length) 0)=mI (kT xs)++mI (List.replicate (xs.length-(kT xs).length) 0):=by simp[mI]
  rw[e,lu,DU (by simp[mI])]
 ·show (mI (lI xs)++l).take (lI xs).length=mI (lI xs);rw[DU (by simp[mI])]
def Vj:∀xs:List Int,(kT xs).length<=xs.length
 | []=>dg _
 | [x]=>dg _
 |x::y::l=>by
  have:=Vj (y::l);show (if x=y then kT (y::l) else x::kT (y::l)).length<=_
  split
  ·exact Nat.le_succ_of_le this
  ·exact Nat.succ_le_succ this
def MT (x:Int):∀ys:List Int,(zn x ys).length=ys.length+1
 | []=>rfl
 |y::ys=>by
  unfold zn;split
  ·rfl
  ·rw[kq,MT x ys];rfl
def A0:∀xs:List Int,(lI xs).length=xs.length
 | []=>rfl
 |x::xs=>by rw[lI,MT,A0 xs];rfl
def atE (z:Bool) (xs:List Int):(Ad z xs).length<=xs.length:=by
 cases z
 ·exact Vj xs
 ·exact vW (A0 xs)
def aba (b:Bool) (xs:List Int):(Ae b xs).length=xs.length:=by
 cases b
 ·have:=Vj xs;show (kT xs++List.replicate (xs.length-(kT xs).length) 0).length=_;rw[gD,tQ];omega
 ·exact A0 xs
def V3 (xs:List Int):∀r∈sP xs,r.length=1:=λr hr=>by
 obtain ⟨x,_,rfl⟩:=cP.1 hr;rfl
def gj.ints {c:Nat} {xs:List Int} (hP:Ap E k c) (h0:Nat.ble 1048576 c=true) (h1:Nat.beq c 1048576=z) (hn:xs.length=n) (h6:n<=4294967295):
  gj E k [(0,.rows false e 1 (sP xs))] [.ms 0 1 0 n] (aP z (.cS []) (.ms 0 1 0 (Ad z xs).length)) [(0,.rows false e 1 (sP (Ad z xs)))]:=.mk λ{F g Y c0 H nx aa} r eV has=>by
 cases has with| @cons _ v _ _ _ q1 t1=>
 cases t1;have hpr:∀f new aa,qw E c f new aa=PE z f aa:=λf new aa=>by
  unfold qw;rw[h0,h1,bG,aH rfl]
 subst hn;rcases Om xs.length with hz|U8
 ·obtain rfl:xs= []:=vX.1 hz;have e0:Ad z []= []:=by cases z<;>rfl
  rw[e0];have hv:v= .dD\/∃id c',v= .sl id 0 0 c':=by
   cases q1 with
   |rl=>exact .inl rfl
   |ms _ _ _ hb=>exact .inr ⟨(g 0).n,_,by rw[lT];rfl⟩
   |xb _ _ hl=>omega
  have ho:qw E c H nx [v]=some (aP z (.cS []) v,[]):=by
   rw[hpr];rcases hv with rfl|⟨id,c',rfl⟩
   ·cases z<;>rfl
   ·cases z<;>rfl
  refine ⟨F,g,Y,c0,_,_,nx+1,Gi hP ho,xz _,λx hx=>eV x (by omega),.refl _,λ_ _=>rfl,?_,r,λx _ h=>h,λh=>by cases h⟩
  cases z
  ·exact q1
  ·exact .cS .nil
 ·obtain ⟨hb,rfl⟩:=Gk q1 U8;have hlk:lk 0 [((0:Nat),Bx.rows false e 1 (sP xs))]=some (.rows false e 1 (sP xs)):=by rw[dy,aH rfl]
  rcases r.cy hlk with ⟨_,_,mQ,_⟩|⟨_,svs,L,hφ,hH,_,hu,jh,q,_⟩
  ·rw[hb] at mQ;cases mQ
  have own:=(r.bx 0 _ hlk).2.2;rw[hφ] at own;have Bp:(sP xs).length=xs.length:=by simp[sP]
  have hl:=ou jh;have q:=q.dat;rw[Bp,Nat.mul_one] at hl q;rw[Bp] at jh;have e1:svs.take xs.length=mI xs:=V4 q;have e2:(svs.drop 0).take xs.length=mI xs:=by rw[rS];exact e1
  have ho:qw E c H nx [.sl (g 0).n 0 xs.length (g 0).c]=some (aP z (.cS []) (.sl (g 0).n 0 (kT xs).length (g 0).c),[((g 0).n,some (SO.cells e (svs.take 0++(mI (Ae z xs)++svs.drop (Nat.add 0 xs.length)))))]):=by
   rw[hpr];show aP (Nat.beq xs.length 0) _ (az (nk (H (g 0).n)) _)=_;rw[show H (g 0).n=_ from hH,show Nat.beq xs.length 0=false from Bool.eq_false_iff.2 λh=>by have:=(beq_iff _ _).1 h;omega]
   show az (Lu ((svs.drop 0).take xs.length)) _=_;rw[e2,PF];show aP (Nat.ble 1 xs.length&&(Nat.ble (Nat.add 0 xs.length) svs.length&&Nat.ble xs.length 4294967295)) _ none=_;rw[rb U8,rb h6,show Nat.add 0 xs.length=xs.length from cC _,rb hl];rfl
  have hol:(sP (Ad z xs)).length=(Ad z xs).length:=by simp[sP]
  generalize hX:(svs.take 0++(mI (Ae z xs)++svs.drop (Nat.add 0 xs.length)))=X at ho;have hlen:X.length=svs.length:=by
   have:=aba z xs;have e3:Nat.add 0 xs.length=xs.length:=cC _;rw[<-hX,e3];simp[mI,this];omega
  have key:=r.wr0 (b':=.rows false e 1 (sP (Ad z xs))) (id:=(g 0).n) (o':=.cells e X) (L':= [((g 0).n,.cells e X)]) eV (by rw[show H (g 0).n=_ from hH];simp) (own (_,_) jo).2
   (.cy hb (λhc=>by cases hc) (V3 _) (by rw[hol,hlen];exact P9 jh (atE z xs)) (.uG (V3 _) (by
    rw[hol,Nat.mul_one,<-hX,DR,jV,akD];exact aae _)) λp hp=>by cases hp) (by simp) (λp hp=>.inl (ez.1 hp))
  obtain ⟨φ',c',k1,k2,k3⟩:=key;refine ⟨F,g,φ',c',_,_,nx+1,Gi hP ho,xz _,k1,.refl _,λ_ _=>rfl,?_,k2,k3,λh=>by cases h⟩
  cases z
  ·exact U0 hb
  ·exact .cS .nil
def gj.cmp {a b:ByteArray} (sY:E.P.funcs[k]? =some fn) (hb:fn.body=none) (hn:(fn.name== "runtime.NumGoroutine")=false) (e1:Extern.findNext fn=none) (e2:Extern.find fn=some Extern.BytealgCompare.compare):gj E k [] [.str a,.str b] (.int .i64 (ET a b)) []:=.mk λ{F g Y c H nx aa} r eV has=>by
 cases has with|cons h1 t1=>
 cases t1 with|cons h2 t2=>
 cases t2;cases h1;cases h2;refine ⟨F,g,Y,c,.int .i64 (.lit (ET a b)),H,nx,λm g w u us hE hr eQ hu jG=> ?_,dg _,eV,.refl _,λ_ _=>rfl,.lit _,r,λ_ _ h=>h,λh=>by cases h⟩
 cases hu with
 | @fn _ first eG _ _ pO qX=>
 have qz:j6 g (first.toList++us++eG.toList) [.str a,.str b]:=(pO.append jG).append qX
 have ph:first++us.toArray++eG=(first.toList++us++eG.toList).toArray:=by apply uC;simp
 obtain ⟨v1,v2,e,h1,h2⟩:=DZ qz;rw[e] at ph;cases h1;cases h2;refine ⟨{target:=.fn (.func k) eG,args:=first++us.toArray},rfl,.inr (.inr ⟨.int .i64 (Lib.compareBytes a.data.toList b.data.toList),w,?_,_,rfl,g,.int _ _ ?_,hr,Fr.refl _ _ _,λ_ _=>rfl,eQ⟩)⟩
 ·show (callFunc k (first++us.toArray++eG)).run E.P w=_
  rw[ph,run_callFunc_extern sY hn (by rw[hb];rfl) e1 e2,Lib.run_compareString]
  rfl
 ·rw[JB];rfl
def gj.done (hd:JV E.P k v) (hv:∀F g,VA F g v y):gj E k [] [] y []:=.mk λ{F g Y c H nx aa} r eV has=>by
 cases has;obtain ⟨qo,h4⟩:=hd;refine ⟨F,g,Y,c,v,H,nx,λm g w u us hE hr eQ hu jG=> ?_,dg _,eV,.refl _,λ_ _=>rfl,hv F _,r,λ_ _ h=>h,λh=>by cases h⟩
 cases hu with
 | @fn _ first eG _ _ pO qX=>
 have ef:first= #[]:=by
  generalize hz:first.toList=z at pO
  cases pO;simpa using hz
 have ec:eG= #[]:=by
  generalize hz:eG.toList=z at qX;cases qX;simpa using hz
 cases jG;subst ef;subst ec;refine ⟨{target:=.fn (.func k) #[],args:= #[]},rfl,.inl ⟨k,#[],GD qo #[] w,?_⟩⟩;refine CallsIn.mono (h4 m w) ?_;rintro e w' ⟨r,rfl,xd,hs⟩;exact ⟨r,rfl,g,xd g,hr.grow hs.size hs.heap,⟨hs.os,hs.tape,hs.output,hs.size,.refl _,λb hb _=>hs.heap b hb,λb hb hm=>hm⟩,λ_ _=>rfl,eQ⟩
end
end Go.bZ
namespace Go.bZ
open Go.RowKit
variable {nb nx:Nat} {v:Value} {H:Hf} {k f:FuncId} {aa:aY} {us:fq} {xs:bf} {b:Bool}
section
variable {H':Hf} {nx':Nat}
def sd (nb:Nat):Value->SV
 | .bool b=>.bool b
 | .int k n=>.int k (.lit n)
 | .string s=>.str s
 | .slice a n c=>
  if n=0 then (if a=none/\c=0 then .dD else .sle)
  else (match a with
   |some ⟨b,o,none⟩=>if b<nb/\n<=c then .sl b o n (.k c) else .undef
   |_=>.undef)
 |_=>.undef
def abj (nb:Nat):Value->SV
 | .agg cs=>.agg (cs.toList.map (sd nb))
 |v=>sd nb v
def akH (nb:Nat):Obj->Option SO
 | .cells cur _ _=>some (.ro (cur.toList.map (sd nb)))
 |_=>none
def mir (nb:Nat):List Obj->Nat->Hp
 | [],_=>.nil
 |o::l,i=>(mir nb l (i+1)).set i (akH nb o)
def uy (W:World):Hp:=mir W.heap.size W.heap.toList 0
def gW (P:Program) (W:World):Gh:=⟨λ_=>0,P.cellsOf,λid=>if id<W.heap.size then some (id,0) else none,λ_=>0,λ_=>0,λb=>W.heap[b]?⟩
def ahH (nb:Nat):∀(l:List Obj) (i x:Nat),(mir nb l i).get x=if x<i then none else (l[x-i]?).bind (akH nb)
 | [],i,x=>by show (Tr.nil:Hp).get x=_;simp;rfl
 |o::l,i,x=>by
  show ((mir nb l (i+1)).set i (akH nb o)).get x=_;rw[Tr.pB];by_cases hx:x=i
  ·subst hx;simp
  ·rw[aM hx,ahH nb l (i+1) x];by_cases cV:x<i
   ·rw[aH cV,aH (by omega)]
   ·rw[aM cV,aM (by omega),show x-i=(x-(i+1))+1 by omega,rU]
def Gl (W:World) (x:Nat):(uy W).get x=(W.heap[x]?).bind (akH W.heap.size):=by
 unfold uy;rw[ahH];simp
variable {P:Program} {W:World}
def aqR (v:Value):VR (gW P W) v (sd W.heap.size v):=by
 unfold sd;split
 ·exact .bool _
 ·exact .int _ _ rfl
 ·exact .str _
 ·rename_i a n c;split
  ·rename_i hn;subst hn;split
   ·rename_i h;obtain ⟨rfl,rfl⟩:=h;exact .dD
   ·exact .sle
  ·split
   ·rename_i b o;split
    ·rename_i h;have:=VR.sl (g:=gW P W) (id:=b) (off:=o) (n:=n) (b:=b) (o:=0) (c:=c) (cap:=.k c) (by show (if b<W.heap.size then some (b,0) else none)=_;rw[aH h.1]) h.2 (λm hm=>by cases hm;rfl) (λe he=>by cases he)
     rwa[cC] at this
    ·exact .undef _
   ·exact .undef _
 ·exact .undef _
def aBP (h:HI (sd nb v)=false):v.oneCell'=true:=by
 cases v<;>first|rfl|(cases h;done)
def aEN:HR (gW P W) (uy W).get W:=by
 refine ⟨λid o ho=> ?_,λi j x y b c d hx hy h1 h2=> ?_⟩
 ·rw[Gl] at ho;cases hb:W.heap[id]? with
  |none=>rw[hb] at ho;cases ho
  |some ob=>
   have cV:id<W.heap.size:=(na.1 hb).1;refine ⟨id,0,aH cV,cV,?_⟩;rw[hb] at ho;cases ob with
   |cells cur e fz=>
    cases ho;refine ⟨cur,e,fz,hb,hb,λj x hx=> ?_⟩
    rw[mH] at hx;cases hv:cur.toList[j]? with
    |none=>rw[hv] at hx;cases hx
    |some v=>
     rw[hv] at hx;cases hx;exact ⟨v,by rw[cC];simpa using hv,λhu=>⟨aBP hu,aqR v⟩⟩
   |_=>cases ho
 ·have k1:(if i<W.heap.size then some (i,0) else none)=some (b,c):=h1
  have k2:(if j<W.heap.size then some (j,0) else none)=some (b,d):=h2
  split at k1
  ·split at k2
   ·cases k1;cases k2;rfl
   ·cases k2
  ·cases k1
variable {E:Env} {g:Gh} {w:World}
def aBn [hF:Hm E] {v:SV} (Iu:oA E false (.fn (.func k) [] []) aa H nx v H' nx') (qo:Vc E (.fn (.func k) [] [])=true) (hE:dV E g) (hr:HR g H w) (dY:∀x,nx<=x->g.Z x=none) (jG:j6 g us aa) (m:Nat):CallsIn Fence.wide m E.P k us.toArray w λe w'=>∃r g',e= .returned r/\VR g' r v/\HR g' H' w'/\Fr g H w g' H' w':=by
 obtain ⟨k',fi,ca,fn,e1,sY,oh⟩:=Jk qo;cases e1;obtain ⟨d,xh,HL⟩:=Iu m g w (.func (.func k) #[] #[]) us hE hr dY (.fn .nil .nil) jG;have hd:d={target:=.fn (.func k) #[],args:= #[]++us.toArray}:=by
  rw[IH] at xh;cases xh;rfl
 subst hd;have Ag:∀(args:hY) (w:World),(invoke (.fn (.func k) #[]) args).run E.P w=(callFunc k (args++ #[])).run E.P w:=λ_ _=>rfl
 rcases pK (hF.fn k fn sY).1 oh (#[]++us.toArray++ #[]) w with ⟨hc,_⟩|hc
 ·rcases HL with ⟨k',JF,q1,q2⟩|⟨l,k',t',JF,b',q1,_⟩|⟨r,w',q1,_⟩<;>(rw[Ag,hc] at q1;cases q1)
 ·rcases HL with ⟨k',JF,q1,q2⟩|⟨l,k',t',JF,b',q1,_⟩|⟨r,w',q1,_⟩
  ·rw[Ag,hc] at q1;cases q1;have e: #[]++us.toArray++ #[]=us.toArray:=by simp
   rw[e] at q2;refine CallsIn.mono q2 ?_;rintro e w' ⟨r,rfl,g',h1,h2,h3,_,_⟩;exact ⟨r,g',rfl,h1,h2,h3⟩
  ·rw[Ag,hc] at q1;cases q1
  ·rw[Ag,hc] at q1;cases q1
def alH {E:Env} [Hm E] (hE:dV E (gW E.P W)) (hc:gj E f [] xs (.bool b) []) (qo:Vc E (.fn (.func f) [] [])=true) (hx:dz (uy W).get lz aa xs) (jG:j6 (gW E.P W) us aa):Calls E.P f us.toArray W λe W'=>e= .returned (.bool b)/\Below W.heap.size W W':=by
 have eV:∀x,W.heap.size<=x->(uy W).get x=none:=λx hx=>by
  rw[Gl,Oh hx];rfl
 have hent:Rel (uy W).get lz (λ_=> []) (λ_=>none) ⟨[],[]⟩ noT (uy W).get:=⟨λt x hx=>(by cases hx),λk b hb=>(by cases hb),λi o h=>⟨h,rfl⟩,λ_ _=>rfl⟩
 obtain ⟨F',g',φ',c',v,H',nx',Iu,eQ,hbd',hF,_,hv,hrel,_,_⟩:=hc.go hent eV hx;have:=callsIn_wide.1 (aBn Iu qo hE aEN (λx hx=>aM (Nat.not_lt.2 hx)) jG 0)
 refine this.mono ?_;rintro e W' ⟨r,g2,rfl,k1,k2,k3⟩;cases hv;cases k1;refine ⟨rfl,k3.os,k3.tape,k3.output,k3.size,λx hx=> ?_⟩
 cases hm:(uy W).get x with
 |none=>
  refine k3.old x hx λ⟨id,o,c,z1,z2⟩=> ?_
  have z2:(if id<W.heap.size then some (id,0) else none)=some (x,c):=z2
  split at z2
  ·cases z2;have z1:(uy W).get x=some o:=z1;rw[hm] at z1;cases z1
  ·cases z2
 |some o=>
  obtain ⟨b',c',y1,y2,y3⟩:=k2.ob x o (hrel.fr x o (hF x o hm)).1;have y0:g2.Z x=some (x,0):=k3.le.Z x (x,0) (aH hx);rw[y0] at y1;cases y1;rw[Gl] at hm;cases hb:W.heap[x]? with
  |none=>rw[hb] at hm;cases hm
  |some ob=>
   rw[hb] at hm;cases ob with
   |cells cur e fz=>
    cases hm;obtain ⟨iV,e',fz',w1,w2,_⟩:=y3;have w3:g2.wb x=W.heap[x]? :=congrFun k3.le.wb x;rw[w1,<-w2,w3,hb]
   |_=>cases hm
end
end Go.bZ
namespace Go.bZ
open Go.RowKit Go.Proofs.YtbnkhmoelnfjoaaGreat
variable {a vs:fq} {x xs:bf} {v:Value} {J:Type} {c s nb:Nat} {e t:TypeId} {ps:List MemPlace}
section
mutual
def LO:AV->Nat
 | .lit (.str s)=>s.size+1
 | .sl _ _ _ _ rows=>yb rows+1
 |_=>1
def yb:bA->Nat
 | []=>0
 |r::rs=>mu r+yb rs
def mu:bf->Nat
 | []=>0
 |x::xs=>LO x+mu xs
end
def JD (xs ys:bf):mu (xs++ys)=mu xs+mu ys:=by
 induction xs with
 |nil=>simp[mu]
 |cons x xs ih=>simp[mu,ih];omega
def wS {J O:Type} (R:J->O->Prop):List J->List O->Prop
 | [],[]=>True
 |a::l,b::m=>R a b/\wS R l m
 |_,_=>False
def jI (P:Program):Nat->TypeId->bf->Prop
 |0,_,_=>False
 |n+1,t,xs=>
  match P.underlying t with
  |some .bool=>∃b,xs= [.bool b]
  |some (.int k)=>∃i,xs= [.int k i]/\(Lit.int k i).wf=true
  |some .string=>∃s:ByteArray,xs= [.str s]/\s.size<=maxLen
  |some (.slice e)=>∃rows,xs= [.qK e (P.cellsOf e) rows.length rows]/\∀r∈rows,jI P n e r
  |some (.struct fs)=>∃qH:bA,xs=qH.flatten/\wS (λf ys=>jI P n f.type ys) fs.toList qH
  |some (.array m e)=>∃qH:bA,xs=qH.flatten/\qH.length=m/\∀ys∈qH,jI P n e ys
  |_=>False
def vC (P:Program) (S:TypeId->Bool) (total:Nat):Nat->List Field->Bool
 |off,[]=>off==total
 |off,f::fs=>f.offset==off&&S f.type&&vC P S total (off+P.cellsOf f.type) fs
def Ia (P:Program) (S:TypeId->Bool) (t:TypeId):Bool:=
 match P.underlying t with
 |some .bool|some (.int _)|some .string=>true
 |some (.struct fs)=>vC P S (P.cellsOf t) 0 fs.toList
 |some (.array n e)=>P.cellsOf t==n*P.cellsOf e&&S e
 |some (.slice e)=>S e&&decide (0<P.cellsOf e)
 |_=>false
def CR (W:World) (cs:fq) (xs:bf):Prop:=dz (uy W).get lz (cs.map (sd W.heap.size)) xs/\∀v∈cs,HI (sd W.heap.size v)=false
section
variable {H:Type} {enc:TypeId×Value->H} {P:Program} {S:TypeId->Bool} {w:World} {base:Nat} {spare:Nat->Bool} {held:Bool}
variable {y ys:bf} {O:Type}
def CR.nil:CR w [] []:=⟨.nil,λv hv=>by cases hv⟩
def CR.append {b:fq} (h:CR w a x) (k:CR w b y):CR w (a++b) (x++y):=⟨by rw[mw];exact h.1.append k.1,λv hv=>(eO.1 hv).elim (h.2 v) (k.2 v)⟩
def CR.one {x:AV} (h:VA (uy w).get lz (sd w.heap.size v) x) (hu:HI (sd w.heap.size v)=false):CR w [v] [x]:=⟨.cons h .nil,λu se=>by rw[ez.1 se];exact hu⟩
def CR.length (h:CR w a x):a.length=x.length:=by have:=h.1.length;simpa using this
def yK {J O:Type} {f:J->Option O}:∀{l:List J} {r:List O},l.mapM f=some r->wS (λa b=>f a=some b) l r
 | [],r,h=>by simp at h;subst h;trivial
 |a::l,r,h=>by
  rw[SC] at h;cases ha:f a with
  |none=>simp[ha] at h
  |some b=>
   cases hl:l.mapM f with
   |none=>simp[ha,hl] at h
   |some m=>
    simp[ha,hl] at h;subst h;exact ⟨ha,yK hl⟩
def M3 {J O:Type} {R:J->O->Prop}:∀{l:List J} {m:List O},wS R l m->l.length=m.length
 | [],[],_=>rfl
 |_::_,_::_,h=>by simp[M3 h.2]
 | [],_::_,h=>h.elim
 |_::_,[],h=>h.elim
def NV {J O:Type} {R:J->O->Prop}:∀{l:List J} {m:List O},wS R l m->∀{i:Nat} {b:O},m[i]? =some b->∃a,l[i]? =some a/\R a b
 | [],[],_,_,_,h=>by simp at h
 |a::l,b::m,h,i,x,hx=>by
  cases i with
  |zero=>simp at hx;subst hx;exact ⟨a,rfl,h.1⟩
  |succ i=>simp at hx;obtain ⟨y,h1,h2⟩:=NV h.2 hx;exact ⟨y,by simpa using h1,h2⟩
 | [],_::_,h,_,_,_=>h.elim
 |_::_,[],h,_,_,_=>h.elim
def avu {R:J->O->Prop} {l:List J} {m:List O} (h:wS R l m) {b:O} (hb:b∈m):∃a,R a b:=by
 obtain ⟨i,hi⟩:=List.mem_iff_getElem?.1 hb;obtain ⟨a,_,ha⟩:=NV h hi;exact ⟨a,ha⟩
def HB (n:Nat)
  (ih:∀t cs x,S t=true->DataW.trod enc P w base spare held n t cs=some x->∃xs,CR w cs xs/\jI P n t xs/\mu xs<=Rows.uptoBulk x.1) (total:Nat):
  ∀(fs:List Field) (off:Nat) (cs:fq) (ys:List (DataW H×List MemPlace)),vC P S total off fs=true->cs.length=total->
   wS (λf y=>DataW.trod enc P w base spare held n f.type ((cs.drop f.offset).take (P.cellsOf f.type))=some y) fs ys->off<=total->
   ∃qH:bA,CR w (cs.drop off) qH.flatten/\wS (λf zs=>jI P n f.type zs) fs qH/\mu qH.flatten<=Rows.uptoBulkAll (ys.map (·.1))
 | [],off,cs,ys,ht,hl,h2,_=>by
  simp[vC] at ht;refine ⟨[],?_,trivial,by simp[mu]⟩
  rw[po (by omega)]
  exact .nil
 |f::fs,off,cs,[],_,_,h2,_=>h2.elim
 |f::fs,off,cs,y::ys,ht,hl,h2,ho=>by
  simp only[vC,bF,tP] at ht;obtain ⟨⟨ht0,htt⟩,ht1⟩:=ht;obtain ⟨h0,h1⟩:=h2;obtain ⟨xs,c1,c2,c3⟩:=ih _ _ _ htt h0;have hle:∀(fs:List Field) (o:Nat),vC P S total o fs=true->o<=total:=by
   intro fs;induction fs with
   |nil=>intro o h;simp[vC] at h;omega
   |cons g gs ihg=>intro o h;simp only[vC,bF] at h;have:=ihg _ h.2;omega
  have hle':=hle fs _ ht1;obtain ⟨qH,d1,d2,d3⟩:=HB n ih total fs (off+P.cellsOf f.type) cs ys ht1 hl h1 hle';refine ⟨xs::qH,?_,⟨c2,d2⟩,?_⟩
  ·rw[ht0] at c1;have:cs.drop off=(cs.drop off).take (P.cellsOf f.type)++cs.drop (off+P.cellsOf f.type):=by
    rw[<-tU];exact (DH _ _).symm
   rw[this];exact c1.append d1
  ·simp only[qB,iZ,Rows.uptoBulkAll,JD];omega
def JG (n:Nat) (e:TypeId) (he:S e=true)
  (ih:∀t cs x,S t=true->DataW.trod enc P w base spare held n t cs=some x->∃xs,CR w cs xs/\jI P n t xs/\mu xs<=Rows.uptoBulk x.1) (cs:fq):
  ∀(m k:Nat) (ys:List (DataW H×List MemPlace)),cs.length=(k+m)*P.cellsOf e->
   wS (λi y=>DataW.trod enc P w base spare held n e ((cs.drop (i*P.cellsOf e)).take (P.cellsOf e))=some y) (List.range' k m) ys->
   ∃qH:bA,CR w (cs.drop (k*P.cellsOf e)) qH.flatten/\qH.length=m/\(∀zs∈qH,jI P n e zs)/\mu qH.flatten<=Rows.uptoBulkAll (ys.map (·.1))
 |0,k,ys,hl,h2=>by
  refine ⟨[],?_,rfl,by simp,by simp[mu]⟩
  rw[po (by simp at hl;omega)]
  exact .nil
 |m+1,k,[],_,h2=>by simp[yz,wS] at h2
 |m+1,k,y::ys,hl,h2=>by
  rw[yz] at h2;obtain ⟨h0,h1⟩:=h2;obtain ⟨xs,c1,c2,c3⟩:=ih _ _ _ he h0;obtain ⟨qH,d1,d2,d3,d4⟩:=JG n e he ih cs m (k+1) ys (by rw[hl];congr 1;omega) h1
  refine ⟨xs::qH,?_,by simp[d2],?_,?_⟩
  ·have:cs.drop (k*P.cellsOf e)=(cs.drop (k*P.cellsOf e)).take (P.cellsOf e)++cs.drop ((k+1)*P.cellsOf e):=by
    rw[gA,pq,<-tU];exact (DH _ _).symm
   rw[this];exact c1.append d1
  ·intro zs hz;rcases cH.1 hz with rfl|hz
   ·exact c2
   ·exact d3 zs hz
  ·simp only[qB,iZ,Rows.uptoBulkAll,JD];omega
def aCn (a:Addr) (k j:Nat) (h:a.spot=none\/0<k):(a.add k).add j=⟨a.block,a.off+k+j,none⟩:=by
 obtain ⟨b,o,s⟩:=a;by_cases hk:k=0
 ·subst hk;simp at h;subst h;by_cases hj:j=0<;>simp[Addr.add,hj]
 ·by_cases hj:j=0<;>simp[Addr.add,hk,hj]
def Ip (n:Nat) (e:TypeId) (he:S e=true) (a:Addr)
  (ih:∀t cs x,S t=true->DataW.trod enc P w base spare held n t cs=some x->∃xs,CR w cs xs/\jI P n t xs/\mu xs<=Rows.uptoBulk x.1) (hs:0<P.cellsOf e):
  ∀(m k:Nat) (ys:List (DataW H×List MemPlace)),
   wS (λi y=>((w.cells? base (a.add (i*P.cellsOf e)) (P.cellsOf e)).bind (DataW.trod enc P w base spare held n e))=some y) (List.range' k m) ys->
   ∃(rows:bA) (vs:fq),CR w vs rows.flatten/\vs.length=m*P.cellsOf e/\(∀j v,vs[j]? =some v->w.cell? ⟨a.block,a.off+k*P.cellsOf e+j,none⟩=some v)/\rows.length=m/\(∀zs∈rows,jI P n e zs/\zs.length=P.cellsOf e)/\yb rows<=Rows.uptoBulkAll (ys.map (·.1))/\(k=0->0<m->a.spot=none)
 |0,k,ys,h2=>⟨[],[],.nil,by simp,λj v hv=>(by simp at hv),rfl,by simp,by simp[yb],by simp⟩
 |m+1,k,[],h2=>by simp[yz,wS] at h2
 |m+1,k,y::ys,h2=>by
  rw[yz] at h2;obtain ⟨h0,h1⟩:=h2;obtain ⟨rows,vs,d1,dl,dc,d2,d3,d4,d5⟩:=Ip n e he a ih hs m (k+1) ys h1;cases hc:w.cells? base (a.add (k*P.cellsOf e)) (P.cellsOf e) with
  |none=>simp[hc] at h0
  |some cs=>
   simp only[hc,au] at h0;obtain ⟨xs,c1,c2,c3⟩:=ih _ _ _ he h0;unfold World.cells? at hc;split at hc
   ·have gS:=yK hc;have hlen:cs.length=P.cellsOf e:=by have:=M3 gS;simpa using this.symm
    have o4:∀j v,cs[j]? =some v->w.cell? ((a.add (k*P.cellsOf e)).add j)=some v:=by
     intro j v hj;obtain ⟨i,hi,hv⟩:=NV gS hj;have sX:i=j:=by
      have:=(cf.1 hi);obtain ⟨q1,q2⟩:=this;simpa using q2.symm
     rw[<-sX];exact hv
    have axC:a.spot=none\/0<k*P.cellsOf e:=by
     by_cases hk:0<k*P.cellsOf e
     ·exact .inr hk
     ·have hk0:k*P.cellsOf e=0:=by omega
      have h00:=o4 0 (cs[0]'(by omega)) (by simp)
      rw[hk0] at h00;simp only[Addr.add,aB] at h00;unfold World.cell? at h00;split at h00
      ·split at h00
       ·simp at h00
       ·rename_i q;left;simpa using q
      ·simp at h00
    refine ⟨xs::rows,cs++vs,?_,?_,λj v hj=> ?_,by simp[d2],?_,?_,?_⟩
    ·rw[qB];exact c1.append d1
    ·rw[gD,hlen,dl,gA];omega
    ·by_cases fS:j<cs.length
     ·rw[pD fS] at hj;have h:=o4 j v hj;rw[aCn a _ j axC] at h;exact h
     ·rw[nP (by omega)] at hj
      have h:=dc _ v hj;rw[hlen] at h;rw[hlen] at fS;rw[gA,pq] at h;rw[show a.off+k*P.cellsOf e+j=a.off+(k*P.cellsOf e+P.cellsOf e)+(j-P.cellsOf e) by omega]
      exact h
    ·intro zs hz;rcases cH.1 hz with rfl|hz
     ·exact ⟨c2,by rw[<-c1.length,hlen]⟩
     ·exact d3 zs hz
    ·simp only[yb,iZ,Rows.uptoBulkAll];omega
    ·intro hk0 _;rcases axC with h|h
     ·exact h
     ·subst hk0;simp at h
   ·simp at hc
def asR {b o n:Nat} {rows:bA} (h:CR w vs rows.flatten) (hl:vs.length=n*s) (hc:∀j v,vs[j]? =some v->w.cell? ⟨b,o+j,none⟩=some v) (hn:rows.length=n) (hn0:0<n) (hs:0<s) (hu:∀r∈rows,r.length=s) (jh:n<=c):
  VA (uy w).get lz (sd w.heap.size (.slice (some ⟨b,o,none⟩) n c)) (.qK e s rows.length rows)/\HI (sd w.heap.size (.slice (some ⟨b,o,none⟩) n c))=false:=by
 have U8:0<n*s:=Nat.mul_pos hn0 hs;have hb:∃cur et fz,w.heap[b]? =some (.cells cur et fz):=by
  have h0:=hc 0 (vs[0]'(by omega)) (by simp)
  unfold World.cell? at h0;split at h0
  ·rename_i cur et fz q;exact ⟨cur,et,fz,q⟩
  ·simp at h0
 obtain ⟨cur,et,fz,hb⟩:=hb;have cV:b<w.heap.size:=(na.1 hb).1;have Du:∀j v,vs[j]? =some v->cur[o+j]? =some v:=λj v hj=>by
  have:=hc j v hj;unfold World.cell? at this;rw[hb] at this;simpa using this
 have hle:o+n*s<=cur.size:=by
  have h0:=Du (n*s-1) (vs[n*s-1]'(by omega)) (by simp)
  have:=(na.1 h0).1;omega
 have heq:(cur.toList.drop o).take (n*s)=vs:=by
  apply DQ;intro j;rw[fa];split
  ·rename_i hj;rw[fc];have:=Du j (vs[j]'(by omega)) (by simp)
   rw[lx,this];simp
  ·rename_i hj;rw[xt (by omega)]
 have himg:sd w.heap.size (.slice (some ⟨b,o,none⟩) n c)= .sl b o n (.k c):=by
  show (if n=0 then _ else if b<w.heap.size/\n<=c then SV.sl b o n (.k c) else .undef)=_
  rw[aM (by omega),aH ⟨cV,jh⟩]
 have hwin:((cur.toList.map (sd w.heap.size)).drop o).take (n*s)=vs.map (sd w.heap.size):=by
  rw[<-DW,<-yB,heq]
 have hF:jb ((uy w).get b) o (n*s)=some (0,cur.toList.map (sd w.heap.size)):=by
  rw[Gl,hb];show aP (uN (((cur.toList.map (sd w.heap.size)).drop o).take (n*s))) (some (0,cur.toList.map (sd w.heap.size))) none=_;rw[hwin,bG,aH (Jw λj x hx=> ?_)]
  rw[mH] at hx;cases hv:vs[j]? with
  |none=>rw[hv] at hx;cases hx
  |some v=>rw[hv] at hx;cases hx;exact h.2 v (cN hv)
 rw[himg];subst hn;exact ⟨.sl rfl hF jh (λh=>by cases h) hu (by simpa using hle) (by rw[hwin];exact h.1),rfl⟩
def IY {a:Option Addr} {F:Hf}:VA F lz (sd nb (.slice a 0 c)) (.qK e s 0 [])/\HI (sd nb (.slice a 0 c))=false:=by
 have h:sd nb (.slice a 0 c)=if a=none/\c=0 then SV.dD else .sle:=by simp[sd]
 rw[h];split
 ·exact ⟨.nil _ _ _,rfl⟩
 ·exact ⟨.sle _ _,rfl⟩
def Ot (hP:∀t,S t=true->Ia P S t=true):∀(n:Nat) (t:TypeId) (cs:fq) (x:DataW H×List MemPlace),S t=true->DataW.trod enc P w base spare held n t cs=some x->
  ∃xs,CR w cs xs/\jI P n t xs/\mu xs<=Rows.uptoBulk x.1
 |0,_,_,_,_,h=>by simp[DataW.trod] at h
 |n+1,t,cs,x,cV,h=>by
  have ih:=Ot hP n;have qy:=hP t cV;unfold DataW.trod at h;unfold Ia at qy;split at h
  ·rename_i b hu;simp at h;subst h;exact ⟨[.bool b],.one (.lit (.bool b)) rfl,by simp[jI,hu],by simp[mu,LO,Rows.uptoBulk]⟩
  ·rename_i k k' i hu;split at h
   ·rename_i hc;obtain ⟨rfl,hw⟩:=hc;simp at h;subst h;exact ⟨[.int k' i],.one (.lit (.int _ (.lit _))) rfl,by simp[jI,hu,hw],by simp[mu,LO,Rows.uptoBulk]⟩
   ·simp at h
  ·rename_i k k' i hu;rw[hu] at qy;cases qy
  ·rename_i s hu;split at h
   ·rename_i hc;simp at h;subst h;exact ⟨[.str s],.one (.lit (.str _)) rfl,by simp[jI,hu,hc],by simp[mu,LO,Rows.uptoBulk]⟩
   ·simp at h
  ·rename_i hu;rw[hu] at qy;cases qy
  ·rename_i e a hu;rw[hu] at qy;cases qy
  ·rename_i e hu;simp at h;subst h;exact ⟨[.qK e (P.cellsOf e) 0 []],.one (IY (a:=none) (c:=0)).1 (IY (F:=λ_=>none) (e:=0) (s:=0)).2,by simp only[jI,hu];exact ⟨[],rfl,λr hr=>by cases hr⟩,by simp[mu,LO,yb,Rows.uptoBulk]⟩
  ·rename_i e a len cap hu;simp only at h;split at h
   ·rename_i hc;cases hr:(List.range len).mapM λi=>(w.cells? base (a.add (i*P.cellsOf e)) (P.cellsOf e)).bind (DataW.trod enc P w base spare held n e) with
    |none=>simp[hr] at h
    |some ys=>
     simp only[hr,au,vV] at h;obtain ⟨rest,_,rfl⟩:=h;simp only[hu,bF,jW] at qy;obtain ⟨he,hs⟩:=qy;have h2:=yK hr;rw[Og] at h2;obtain ⟨rows,vs,d1,dl,dc,d2,d3,d4,d5⟩:=Ip n e he a ih hs len 0 ys h2;have key:VA (uy w).get lz (sd w.heap.size (.slice (some a) len cap)) (.qK e (P.cellsOf e) rows.length rows)/\HI (sd w.heap.size (.slice (some a) len cap))=false:=by
      by_cases ur:len=0
      ·subst ur;rw[sq d2];exact IY
      ·have hsp:=d5 rfl (by omega)
       obtain ⟨ab,ao,asp⟩:=a;simp at hsp;subst hsp;exact asR d1 dl (λj v hj=>by have:=dc j v hj;simpa using this) d2 (by omega) hs (λr hr=>(d3 r hr).2) hc.2.1
     refine ⟨[.qK e (P.cellsOf e) rows.length rows],.one key.1 key.2,?_,?_⟩
     ·simp only[jI,hu];exact ⟨rows,rfl,λr hr=>(d3 r hr).1⟩
     ·simp only[mu,LO,Rows.uptoBulk];omega
   ·simp at h
  ·rename_i fs hu;split at h
   ·rename_i hl;simp only[vV] at h;obtain ⟨ys,hm,rfl⟩:=h;simp only[hu] at qy;obtain ⟨qH,d1,d2,d3⟩:=HB n ih _ fs.toList 0 _ ys qy hl (yK hm) (qF _);exact ⟨qH.flatten,by simpa using d1,by simp only[jI,hu];exact ⟨qH,rfl,d2⟩,by simp only[Rows.uptoBulk];omega⟩
   ·simp at h
  ·rename_i m e hu;split at h
   ·rename_i hl;simp only[vV] at h;obtain ⟨ys,hm,rfl⟩:=h;simp only[hu,tP,bF] at qy;have h2:=yK hm;rw[Og] at h2;obtain ⟨qH,d1,d2,d3,d4⟩:=JG n e qy.2 ih _ m 0 ys (by rw[hl,qy.1];simp) h2
    exact ⟨qH.flatten,by simpa using d1,by simp only[jI,hu];exact ⟨qH,rfl,d2,d3⟩,by simp only[Rows.uptoBulk];omega⟩
   ·simp at h
  all_goals first
   |(rename_i hu;rw[hu] at qy;cases qy;done)
   |(cases h;done)
mutual
def PV:AV->Prop
 | .lit (.int k (.lit n))=>(Lit.int k n).wf=true
 | .lit (.str s)=>s.size<=maxLen
 | .sl _ _ _ _ rows=>BD rows
 |_=>True
def BD:bA->Prop
 | []=>True
 |r::rs=>wE r/\BD rs
def wE:bf->Prop
 | []=>True
 |x::xs=>PV x/\wE xs
end
def abM (h:wE xs) (k:wE ys):wE (xs++ys):=by
 induction xs with
 |nil=>exact k
 |cons x xs ih=>exact ⟨h.1,ih h.2⟩
def afW {rows:bA} (h:∀r∈rows,wE r):BD rows:=by
 induction rows with
 |nil=>trivial
 |cons r rs ih=>exact ⟨h r (by simp),ih λx hx=>h x (by simp[hx])⟩
def HN {rows:bA} (h:∀r∈rows,wE r):wE rows.flatten:=by
 induction rows with
 |nil=>trivial
 |cons r rs ih=>exact abM (h r (by simp)) (ih λx hx=>h x (by simp[hx]))
def YJ:∀(n:Nat) (t:TypeId) (xs:bf),jI P n t xs->wE xs
 |0,_,_,h=>h.elim
 |n+1,t,xs,h=>by
  have ih:=YJ n;unfold jI at h;split at h
  ·obtain ⟨b,rfl⟩:=h;exact ⟨trivial,trivial⟩
  ·obtain ⟨b,rfl,hw⟩:=h;exact ⟨hw,trivial⟩
  ·obtain ⟨b,rfl,hw⟩:=h;exact ⟨hw,trivial⟩
  ·obtain ⟨rows,rfl,hr⟩:=h;exact ⟨afW λr h=>ih _ _ (hr r h),trivial⟩
  ·obtain ⟨qH,rfl,h2⟩:=h;exact HN λr hr=>by obtain ⟨f,hf⟩:=avu h2 hr;exact ih _ _ hf
  ·obtain ⟨qH,rfl,_,h2⟩:=h;exact HN λr hr=>ih _ _ (h2 r hr)
  ·exact h.elim
def aBo {en:J->bf} {rows:bA} (h:∀r∈rows,∃x,r=en x):∃ys:List J,rows=ys.map en:=by
 induction rows with
 |nil=>exact ⟨[],rfl⟩
 |cons r rs ih=>
  obtain ⟨y,rfl⟩:=h r (by simp)
  obtain ⟨ys,rfl⟩:=ih λx hx=>h x (by simp[hx])
  exact ⟨y::ys,rfl⟩
def AR (W:World) (P:Program) (v:Value) (x:AV):Prop:=VA (uy W).get lz (abj W.heap.size v) x/\VR (gW P W) v (abj W.heap.size v)
def aCl (hP:∀t,S t=true->Ia P S t=true) (ht:S t=true) {d:DataW H} (h:DataW.Trod enc P w base spare held t v d ps) (hv:v.cells.toList= [v]):
  ∃x n,AR w P v x/\jI P n t [x]/\mu [x]<=Rows.uptoBulk d:=by
 obtain ⟨n,hn⟩:=h;obtain ⟨xs,h1,h2,h3⟩:=Ot hP n t _ _ ht hn;rw[hv] at h1;obtain ⟨h1,hu⟩:=h1;cases h1 with
 |cons hd ht=>
  cases ht;have e:abj w.heap.size v=sd w.heap.size v:=by
   cases v<;>first|rfl|(have:=hu _ (ez.2 rfl);cases this;done)
  exact ⟨_,n,⟨by rw[e];exact hd,by rw[e];exact aqR v⟩,h2,h3⟩
end
end
end Go.bZ
namespace Go.bZ
open Go.RowKit Go.ChangeShapes Go.Proofs.YtbnkhmoelnfjoaaGreat
variable {E:Env} {f:FuncId} {fn:Func} {s:ChangeSpec} {tb t:TypeId} {W:World} {before:List MemPlace} {base:Nat} {v:Value}
section
section
variable {H:Type} {enc:TypeId×Value->H} {P:Program}
def HA (hl:laidOutB P=true) {W W':World} {sp:Nat->Bool}:∀{ts:List TypeId} {vs:fq} {ds:List (DataW H)} {ps:List MemPlace},
  (∀t∈ts,P.readableRec t=true/\t<P.types.size)->DataW.TrodAll enc P W 0 (λ_=>true) true ts vs ds ps->Below W.heap.size W W'->(∀p∈ps,p.block<W.heap.size)->(∀p∈ps,sp p.block=true)->
  DataW.TrodAll enc P W' 0 sp true ts vs ds ps
 | [],_,_,_,_,h,_,_,_=>by
  obtain ⟨rfl,rfl,rfl⟩:=trodAll_nil h;exact rfl
 |t::ts,_,_,_,ht,h,hb,cV,hsp=>by
  obtain ⟨v,vs,d,ds,p,q,rfl,rfl,rfl,h1,h2⟩:=trodAll_cons h;refine ⟨p,q,?_,HA hl (λt h=>ht t (by simp[h])) h2 hb (λx hx=>cV x (by simp[hx])) (λx hx=>hsp x (by simp[hx])),rfl⟩
  exact WideElems.Trod_stays hl (ht t (by simp)).1 (ht t (by simp)).2 h1 (λx hx=>hb.same (cV x (by simp[hx]))) (λx hx=>hsp x (by simp[hx]))
def afj {W:World}:∀{vs:fq} {xs:bf},wS (AR W P) vs xs->dz (uy W).get lz (vs.map (abj W.heap.size)) xs/\j6 (gW P W) vs (vs.map (abj W.heap.size))
 | [],[],_=>⟨.nil,.nil⟩
 |v::vs,x::xs,h=>⟨.cons h.1.1 (afj h.2).1,.cons h.1.2 (afj h.2).2⟩
 | [],_::_,h=>h.elim
 |_::_,[],h=>h.elim
def law_contract [Hm E] (hE:∀W,dV E (gW E.P W)) (qo:Vc E (.fn (.func f) [] [])=true) (hl:laidOutB E.P=true) (mP:(fn.params.toList.all λt=>E.P.readableRec t&&decide (t<E.P.types.size))=true) (fA:fn.resultTypes= #[tb]) (htb:E.P.underlying tb=some .bool) (hv:s.vars= []) (sY:∀ds:List (DataW H),ds.length=fn.params.size->s.fn H ds={results:= [.lit (.bool true)],args:=ds}) {args:hY} {ds gs:List (DataW H)} (hW:DataW.Whole enc E.P fn.params.toList s.vars false W args.toList ds gs before) (PQ:∃xs:bf,gj E f [] xs (.bool true) []/\wS (AR W E.P) args.toList xs):
  Calls E.P f args W λe W'=>∃v,e= .returned v/\s.post enc E.P fn false true false false W args v W':=by
 obtain ⟨xs,hs,h2⟩:=PQ;obtain ⟨k1,k2⟩:=afj h2;have hc:=alH (hE W) hs qo k1 k2;rw[Array.toArray_toList] at hc;refine hc.mono ?_;rintro e W' ⟨rfl,hb⟩;refine ⟨_,rfl,?_⟩;have hW':=hW;obtain ⟨p,q,hA,hV,rfl,hfz,xe⟩:=hW;rw[hv] at hV;obtain ⟨rfl,rfl⟩:=trodVars_none hV;have sg:ds.length=fn.params.size:=by
  have:∀{ts:List TypeId} {vs:fq} {ds:List (DataW H)} {ps:List MemPlace},DataW.TrodAll enc E.P W 0 (λ_=>true) true ts vs ds ps->ds.length=ts.length:=by
   intro ts;induction ts with
   |nil=>intro vs ds ps h;obtain ⟨rfl,rfl,rfl⟩:=trodAll_nil h;rfl
   |cons t ts ih=>intro vs ds ps h;obtain ⟨v,vs,d,ds,p,q,rfl,rfl,rfl,h1,h2⟩:=trodAll_cons h;simp[ih h2]
  simpa using this hA
 have hf:=sY (ds++ []) (by simpa using sg)
 have cV:∀x∈p,x.block<W.heap.size:=λx hx=>hW'.lt x (by simp[hx])
 have htt:∀t∈fn.params.toList,E.P.readableRec t=true/\t<E.P.types.size:=λt ht=>by
  have:=iT.1 mP t ht;simpa using this
 have hold:∀x∈p,(λb=>decide (b<W.heap.size)) x.block=true:=λx hx=>by simpa using cV x hx
 refine ⟨ds,[],p++ [],[],p,[],hW',?_,?_,?_,hb.frame _,λh=>by cases h⟩
 ·rw[hf,fA];exact trodAll_cons_mk (shut_bool htb _) trodAll_mk0
 ·rw[hf];simp only[tM];exact HA hl htt hA hb cV hold
 ·rw[hf,hv];exact rfl
def afL {e:TypeId} (hu:P.underlying t=some (.slice e)) (h:Value.okWide P W .any base t v):v.cells.toList= [v]:=by
 simp only[Value.okWide,hu,Cell.okWide,Cell.ok] at h;split at h<;>first|rfl|(simp_all;done)|(exact h.elim)
end
end
end Go.bZ
namespace Go.Proofs.YtbnkhmoelnfjoaaGreat
open Go.bZ
variable {J:Type} {i:Nat}
def tyT:Tr TI:=awk Tryz.prog 312
def Vd:Tr Func:=axK Tryz.prog
def fnT:Tr Func:=((((Vd.set 182 none).set 184 none).set 185 none).set 165 none).set 219 none
def env (aJx:List Nat) (aCR:List (Nat×Nat)) (Dl:List Nat) (stop:List Nat) (lt eq:List (SI×SI×Bool)) (done:List (Nat×SV)):Env:=⟨Tryz.prog,tyT,fnT,lt,eq,done,aJx,aCR,Dl,stop⟩
def Ou:LV Tryz.prog tyT Vd:=aCS 312 203 (fe:=Tryz.f203) (by kernel_rfl) (by kernel_rfl) Tryz.func203 (by kernel_rfl) (by kernel_rfl) (by kernel_rfl)
def D8 {t:Tr J} {k:Nat} {f:J} (h:(t.set i none).get k=some f):t.get k=some f:=by
 rw[Tr.pB] at h;split at h
 ·cases h
 ·exact h
def ahT:∀k f,fnT.get k=some f->Vd.get k=some f:=λ_ _ h=>D8 (D8 (D8 (D8 (D8 h))))
end Go.Proofs.YtbnkhmoelnfjoaaGreat
namespace Go.Proofs.YtbnkhmoelnfjoaaGreat
open Go.Shelf
def afS:Go.Shelf.Ren:=⟨fun|189=>165|125=>191|257=>190|128=>213|129=>214|294=>204|295=>205|296=>206|297=>207|298=>208|299=>209|216=>210|300=>211|301=>212|328=>222|329=>223|330=>224|331=>225|332=>226|215=>187|343=>236|n=>n,fun|28=>102|3=>3|46=>237|0=>0|51=>271|53=>273|4=>4|183=>264|182=>263|131=>218|5=>5|9=>9|218=>279|222=>191|228=>291|229=>292|n=>n,fun|n=>n⟩
def ahM:Go.Proofs.Lays.n189 Tryz.prog afS:={
 mixed:=by kernel_rfl
 f125:=Tryz.func191.trans (congrArg some (by kernel_rfl))
 f128:=Tryz.func213.trans (congrArg some (by kernel_rfl))
 f129:=Tryz.func214.trans (congrArg some (by kernel_rfl))
 f189:=Tryz.func165.trans (congrArg some (by kernel_rfl))
 f215:=Tryz.func187.trans (congrArg some (by kernel_rfl))
 f216:=Tryz.func210.trans (congrArg some (by kernel_rfl))
 f257:=Tryz.func190.trans (congrArg some (by kernel_rfl))
 f294:=Tryz.func204.trans (congrArg some (by kernel_rfl))
 f295:=Tryz.func205.trans (congrArg some (by kernel_rfl))
 f296:=Tryz.func206.trans (congrArg some (by kernel_rfl))
 f297:=Tryz.func207.trans (congrArg some (by kernel_rfl))
 f298:=Tryz.func208.trans (congrArg some (by kernel_rfl))
 f299:=Tryz.func209.trans (congrArg some (by kernel_rfl))
 f300:=Tryz.func211.trans (congrArg some (by kernel_rfl))
 f301:=Tryz.func212.trans (congrArg some (by kernel_rfl))
 f328:=Tryz.func222.trans (congrArg some (by kernel_rfl))
 f329:=Tryz.func223.trans (congrArg some (by kernel_rfl))
 f330:=Tryz.func224.trans (congrArg some (by kernel_rfl))
 f331:=Tryz.func225.trans (congrArg some (by kernel_rfl))
 f332:=Tryz.func226.trans (congrArg some (by kernel_rfl))
 f343:=Tryz.func236.trans (congrArg some (by kernel_rfl))
 t0:=Tryz.underlying0
 a0:=Tryz.isAgg0
 z0:=Tryz.sizeOf0
 v0:=Tryz.zeroValue0
 t3:=Tryz.underlying3
 a3:=Tryz.isAgg3
 z3:=Tryz.sizeOf3
 v3:=Tryz.zeroValue3
 t4:=Tryz.underlying4
 a4:=Tryz.isAgg4
 z4:=Tryz.sizeOf4
 v4:=Tryz.zeroValue4
 t5:=Tryz.underlying5
 a5:=Tryz.isAgg5
 z5:=Tryz.sizeOf5
 v5:=Tryz.zeroValue5
 t9:=Tryz.underlying9
 a9:=Tryz.isAgg9
 z9:=Tryz.sizeOf9
 v9:=Tryz.zeroValue9
 t28:=Tryz.underlying102
 a28:=Tryz.isAgg102
 z28:=Tryz.sizeOf102
 v28:=Tryz.zeroValue102
 t46:=Tryz.underlying237
 a46:=Tryz.isAgg237
 z46:=Tryz.sizeOf237
 v46:=Tryz.zeroValue237
 t51:=Tryz.underlying271
 a51:=Tryz.isAgg271
 z51:=Tryz.sizeOf271
 v51:=Tryz.zeroValue271
 t53:=Tryz.underlying273
 a53:=Tryz.isAgg273
 z53:=Tryz.sizeOf273
 v53:=Tryz.zeroValue273
 t131:=Tryz.underlying218
 a131:=Tryz.isAgg218
 z131:=Tryz.sizeOf218
 v131:=Tryz.zeroValue218
 t182:=Tryz.underlying263
 a182:=Tryz.isAgg263
 z182:=Tryz.sizeOf263
 v182:=Tryz.zeroValue263
 t183:=Tryz.underlying264
 a183:=Tryz.isAgg264
 z183:=Tryz.sizeOf264
 v183:=Tryz.zeroValue264
 t218:=Tryz.underlying279
 a218:=Tryz.isAgg279
 z218:=Tryz.sizeOf279
 v218:=Tryz.zeroValue279
 t222:=Tryz.underlying191
 a222:=Tryz.isAgg191
 z222:=Tryz.sizeOf191
 v222:=Tryz.zeroValue191
 t228:=Tryz.underlying291
 a228:=Tryz.isAgg291
 z228:=Tryz.sizeOf291
 v228:=Tryz.zeroValue291
 t229:=Tryz.underlying292
 a229:=Tryz.isAgg292
 z229:=Tryz.sizeOf292
 v229:=Tryz.zeroValue292}
def akw:Go.Shelf.Ren:=⟨fun|20=>219|n=>n,fun|22=>102|3=>3|4=>4|0=>0|n=>n,fun|n=>n⟩
def apD:Go.Proofs.Lays2.n20 Tryz.prog akw:={
 mixed:=by kernel_rfl
 f20:=Tryz.func219.trans (congrArg some (by kernel_rfl))
 t0:=Tryz.underlying0
 a0:=Tryz.isAgg0
 z0:=Tryz.sizeOf0
 v0:=Tryz.zeroValue0
 t3:=Tryz.underlying3
 a3:=Tryz.isAgg3
 z3:=Tryz.sizeOf3
 v3:=Tryz.zeroValue3
 t4:=Tryz.underlying4
 a4:=Tryz.isAgg4
 z4:=Tryz.sizeOf4
 v4:=Tryz.zeroValue4
 t22:=Tryz.underlying102
 a22:=Tryz.isAgg102
 z22:=Tryz.sizeOf102
 v22:=Tryz.zeroValue102
 i3:=by kernel_rfl}
end Go.Proofs.YtbnkhmoelnfjoaaGreat
namespace Go.Proofs.YtbnkhmoelnfjoaaGreat
open Go.bZ Go.Sort
variable {w:World} {b off:Nat} {d:Array Int} {cur:Array Value} {e:TypeId} {xs:List Int}
def IX (x:Int):∀ys:List Int,(zn x ys).Perm (x::ys)
 | []=>by simp[zn]
 |y::ys=>by
  unfold zn;split
  ·exact .refl _
  ·exact ((IX x ys).cons y).trans (.swap _ _ _)
def zX:∀xs:List Int,(lI xs).Perm xs
 | []=>.nil
 |x::xs=>(IX x _).trans ((zX xs).cons x)
def MR (x:Int):∀ys:List Int,ys.Pairwise (· <= ·)->(zn x ys).Pairwise (· <= ·)
 | [],_=>by simp[zn]
 |y::ys,h=>by
  unfold zn;split
  ·rename_i hxy;refine vY.2 ⟨λz hz=> ?_,h⟩
   rcases cH.1 hz with rfl|hz
   ·exact hxy
   ·exact Int.le_trans hxy ((vY.1 h).1 z hz)
  ·rename_i hxy;refine vY.2 ⟨λz hz=> ?_,MR x ys (vY.1 h).2⟩
   rcases cH.1 ((IX x ys).mem_iff.1 hz) with rfl|hz
   ·omega
   ·exact (vY.1 h).1 z hz
def Im:∀xs:List Int,(lI xs).Pairwise (· <= ·)
 | []=>.nil
 |x::xs=>MR x _ (Im xs)
def HD:∀{xs ys:List Int},xs.Pairwise (· <= ·)->ys.Pairwise (· <= ·)->xs.Perm ys->xs=ys
 | [],ys,_,_,h=>by simpa using h.symm
 |x::xs,[],_,_,h=>by simp at h
 |x::xs,y::ys,hx,hy,h=>by
  have h1:=vY.1 hx;have h2:=vY.1 hy;have e:x=y:=by
   have a:x∈y::ys:=h.mem_iff.1 (by simp)
   have b:y∈x::xs:=h.mem_iff.2 (by simp)
   rcases cH.1 a with rfl|a
   ·rfl
   ·rcases cH.1 b with rfl|b
    ·rfl
    ·have:=h2.1 x a;have:=h1.1 y b;omega
  subst e;rw[HD h1.2 h2.2 (List.Perm.cons_inv h)]
def Pr (xs:List Int):(xs.mergeSort λx y=>decide (x<=y))=lI xs:=by
 refine HD ?_ (Im xs) ((List.mergeSort_perm xs _).trans (zX xs).symm);have:=List.pairwise_mergeSort (le:=λx y:Int=>decide (x<=y)) (λa b c=>by simp;omega) (λa b=>by simp;omega) xs
 exact this.imp (by simp)
def tlI:Int->List Int->List Int
 |_,[]=> []
 |x,y::l=>if y=x then tlI y l else y::tlI y l
def awl:∀(l:List Int) (x:Int),((List.range l.length).filter (λj=>Lib.keeps (x::l).toArray (j+1))).map (λj=>(x::l).toArray[j+1]!)=tlI x l
 | [],x=>rfl
 |y::l,x=>by
  have ih:=awl l y;rw[kq,anP,mz,List.filter_map];have e1:((λj=>Lib.keeps (x::y::l).toArray (j+1)) ∘ Nat.succ)=λj=>Lib.keeps (y::l).toArray (j+1):=by
   funext j;simp[Lib.keeps]
  have e2:((λj=>(x::y::l).toArray[j+1]!) ∘ Nat.succ)=λj=>(y::l).toArray[j+1]! :=by
   funext j;simp
  have e3:Lib.keeps (x::y::l).toArray (0+1)= !decide (y=x):=by simp[Lib.keeps]
  rw[e1,e3];show _=(if y=x then tlI y l else y::tlI y l)
  by_cases h:y=x
  ·rw[aH h,rV h,aM (by decide),DL,e2]
   exact ih
  ·rw[aM h,YD h,aH (by decide),iZ,DL,e2,ih]
   rfl
def JA (x:Int) (l:List Int):Lib.compact (x::l)=x::tlI x l:=by
 unfold Lib.compact Lib.compactUpTo;rw[kq,anP,mz,aH (by simp[Lib.keeps]),List.filter_map,iZ,DL]
 have:=awl l x;rw[<-this];rfl
def P8:∀xs:List Int,Lib.compact xs=kT xs
 | []=>rfl
 | [x]=>by rw[JA];rfl
 |x::y::l=>by
  have ih:=P8 (y::l);rw[JA] at ih ⊢;show x::(if y=x then tlI y l else y::tlI y l)=(if x=y then kT (y::l) else x::kT (y::l))
  rw[<-ih];by_cases h:y=x
  ·subst h;rw[aH rfl,aH rfl]
  ·rw[aM h,aM (λe=>h e.symm)]
def aoZ {n:Nat} (h:w.heap[b]? =some (Obj.cells cur e (0,0))):Wr w (putRow (Value.int .i64) (Sort.ahead w n) b off d) b e (putCells (Value.int .i64) off d cur):=by
 have cV:b<w.heap.size:=(na.1 h).1;refine ⟨?_,?_,λk hk=> ?_,rfl,rfl,rfl⟩
 ·show (w.heap.modify b (onCells (putCells (Value.int .i64) off d)))[b]? =_;rw[HZ,aH rfl,h];rfl
 ·show (w.heap.modify b _).size=_;rw[Array.size_modify]
 ·show (w.heap.modify b _)[k]? =_;rw[HZ,aM (DK hk)]
def UP {d:List Int} (hl:off+d.length<=cur.size):(putCells (Value.int .i64) off d.toArray cur).size=cur.size/\(∀t,(t<off\/off+d.length<=t)->(putCells (Value.int .i64) off d.toArray cur)[t]? =cur[t]?)/\∀t x,d[t]? =some x->(putCells (Value.int .i64) off d.toArray cur)[off+t]? =some (.int .i64 x):=by
 refine ⟨by simp[putCells],λt ht=> ?_,λt x hx=> ?_⟩
 ·simp only[putCells,Array.getElem?_mapIdx];have hn:¬(off<=t/\t<off+d.toArray.size):=by simp;omega
  simp only[aM hn];simp
 ·have cV:=(cf.1 hx).1;simp only[putCells,Array.getElem?_mapIdx];rw[nS (by omega),HY,aH ⟨by omega,by simp;omega⟩]
  have:d.toArray[off+t-off]! =x:=by
   rw[show off+t-off=t by omega,getElem!_pos _ _ (by simpa using cV)]
   simpa[cV] using hx
  rw[this]
def afV (w:World) (os:Array Obj):BP w (Sort.grow w os):=by
 refine ⟨rfl,rfl,rfl,by simp[Sort.grow],λb hb=> ?_⟩
 simp[Sort.grow,Array.getElem?_append,hb]
def holds_of (h:w.heap[b]? =some (.cells cur e (0,0))) (hx:∀t x,xs[t]? =some x->cur[off+t]? =some (.int .i64 x)):Holds (Value.int .i64) w b off xs.toArray:=λj hj=>by
 have hj:j<xs.length:=by simpa using hj
 have:=hx j xs[j] (dJ hj);refine ⟨?_,by simp[World.frozen?,h]⟩
 rw[show w.cell? ⟨b,off+j,none⟩=cur[off+j]? by simp[World.cell?,h],this,getElem!_pos _ _ (by simpa using hj)]
 simp
def aca (h0:0<xs.length) (hx:∀t x,xs[t]? =some x->cur[off+t]? =some (.int .i64 x)):off+xs.length<=cur.size:=by
 have:=hx (xs.length-1) _ (dJ (by omega))
 have:=(na.1 this).1;omega
def aoI:Qr Tryz.prog 165 true:=by
 refine ⟨⟨_,Tryz.func165,by kernel_rfl,by rw[show Tryz.f165.name= "slices.Sort[[]int,int]" by kernel_rfl];decide⟩,λm w p c=> ?_,λm w b off c xs cur e hb h0 h6 hc hx=> ?_⟩
 ·refine CallsIn.mono (callsIn_wide.2 (Any.slices_Sort_int_none ahM p c w)) ?_;rintro e w' ⟨rfl,rfl⟩;exact ⟨rfl,rfl,rfl,rfl,rfl⟩
 ·have cV:b<w.heap.size:=(na.1 hb).1;refine CallsIn.mono (callsIn_wide.2 (Any.slices_Sort_int ahM b off c xs w (holds_of hb hx) cV (by omega))) ?_
  rintro e' w' ⟨rfl,n,os,rfl⟩;rw[Pr];have hl:(lI xs).length=xs.length:=(zX xs).length_eq;obtain ⟨a1,a2,a3⟩:=UP (d:=lI xs) (by rw[hl];exact aca h0 hx)
  rw[hl] at a2;exact ⟨rfl,_,_,aoZ hb,afV _ os,a1,a2,a3⟩
def acb:Qr Tryz.prog 219 false:=by
 refine ⟨⟨_,Tryz.func219,by kernel_rfl,by rw[show Tryz.f219.name= "slices.Compact[[]int,int]" by kernel_rfl];decide⟩,λm w p c=> ?_,λm w b off c xs cur e hb h0 h6 hc hx=> ?_⟩
 ·refine CallsIn.mono (callsIn_wide.2 (Any.slices_Compact_int_empty apD p c w)) ?_;rintro e w' ⟨rfl,rfl⟩;exact ⟨rfl,rfl,rfl,rfl,rfl⟩
 ·refine CallsIn.mono (callsIn_wide.2 (Any.slices_Compact_int apD b off c xs w (holds_of hb hx) (by omega) hc)) ?_
  rintro e' w' ⟨rfl,n,rfl⟩;rw[P8];have hle:=Jx xs;have hl:(kT xs++List.replicate (xs.length-(kT xs).length) 0).length=xs.length:=by simp;omega
  obtain ⟨a1,a2,a3⟩:=UP (d:=kT xs++List.replicate (xs.length-(kT xs).length) 0) (by rw[hl];exact aca h0 hx)
  rw[hl] at a2;exact ⟨rfl,_,_,aoZ hb,⟨rfl,rfl,rfl,dg _,λ_ _=>rfl⟩,a1,a2,a3⟩
end Go.Proofs.YtbnkhmoelnfjoaaGreat
namespace Go.Proofs.YtbnkhmoelnfjoaaGreat
open Go.Lib Go.RowKit Go.bZ
variable {P:Program} {rest:List Oper} {o:Oper} {a:Act} {Q:Exit->Act->World->Prop} {v':Value} {w' w:World} {K:Act->World->Prop} {E:Prop} {J:Type} {k:Nat}
def MZ (w:World) (t e:TypeId) (z:Value) (sz:Nat) (ht:P.underlying t=some (.slice e)) (hv:∀w,(zeroValue e).run P w= .ok z w) (hz:z.cells.size=sz) (h1:∀v∈z.cells.toList,v.oneCell'=true) (b o n c:Nat) (hn:0<n) (hc:∀j,j<n*sz->(w.cell? ⟨b,o+j,none⟩).isSome=true) (hf:∀j,j<n*sz->w.frozen? ⟨b,o+j,none⟩=false):
  ∃zs:List Value,zs.length=n*sz/\(∀v∈zs,v.oneCell'=true)/\∀ty,(Builtin.clear_ #[t] ty #[.slice (some ⟨b,o,none⟩) n c]).run P w= .ok (.tuple #[]) (w.setCells b o zs):=by
 have hl:(Builtin.zeroCells z.cells n).toList.length=n*sz:=by simp[Builtin.zeroCells,hz]
 have td:∀v∈(Builtin.zeroCells z.cells n).toList,v.oneCell'=true:=λv HJ=>by
  simp only[Builtin.zeroCells,Array.toList_map,cP] at HJ;obtain ⟨i,hi,rfl⟩:=HJ;have hi:i<n*z.cells.size:=by simpa using hi
  have hz0:0<z.cells.size:=by
   rcases Om z.cells.size with e|e
   ·rw[e] at hi;simp at hi
   ·exact e
  have cV:i % z.cells.size<z.cells.size:=Nat.mod_lt _ hz0;rw[getElem!_pos z.cells _ cV];exact h1 _ (Array.getElem_mem_toList cV)
 refine ⟨(Builtin.zeroCells z.cells n).toList,hl,td,λty=> ?_⟩
 have nG:=run_storeCells_cells (P:=P) b o (Builtin.zeroCells z.cells n).toList 0 w (by rw[hl];simpa using hc) (by rw[hl];simpa using hf) td
 simp only[mZ] at nG;obtain ⟨m,rfl⟩:∃m,n=m+1:=⟨n-1,by omega⟩
 simp[Builtin.clear_,run_underlying ht,hv,nG]
def yn (b:Nat) (vs:List Value) (o:Nat) (w:World) (h:∀j,j<vs.length->(w.cell? ⟨b,o+j,none⟩).isSome=true) (k:Nat) (hk:(w.cell? ⟨b,k,none⟩).isSome=true):((w.setCells b o vs).cell? ⟨b,k,none⟩).isSome=true:=by
 by_cases il:o<=k/\k<o+vs.length
 ·have:=World.cell?_setCells_in b vs o w h (k-o) (by omega)
  rw[show o+(k-o)=k by omega] at this
  rw[this];rfl
 ·rw[World.cell?_setCells_out b vs o w ⟨b,k,none⟩ (λ_ _=>by show k<o\/o+vs.length<=k;omega)]
  exact hk
def lS {b:Nat} {e:TypeId}:∀(vs:List Value) (o:Nat) (w:World) (cur:Array Value),w.heap[b]? =some (.cells cur e (0,0))->o+vs.length<=cur.size->∃iV,Wr w (w.setCells b o vs) b e iV/\iV.size=cur.size/\∀k,iV[k]? =if o<=k/\k<o+vs.length then vs[k-o]? else cur[k]?
 | [],o,w,cur,hb,hl=>⟨cur,⟨hb,rfl,λ_ _=>rfl,rfl,rfl,rfl⟩,rfl,λk=>by rw[aM (λh=>absurd h.2 (by have:=h.1;show ¬k<o+0;omega))]⟩
 |v::vs,o,w,cur,hb,hl=>by
  have hl:o+(vs.length+1)<=cur.size:=hl;have cV:b<w.heap.size:=(na.1 hb).1;have h1:(w.setCell ⟨b,o,none⟩ v).heap[b]? =some (.cells (cur.setIfInBounds o v) e (0,0)):=by
   simp[World.setCell,HZ,hb]
  obtain ⟨iV,a1,a2,a3⟩:=lS vs (o+1) (w.setCell ⟨b,o,none⟩ v) _ h1 (by simp;omega)
  refine ⟨iV,⟨a1.heap,a1.size.trans (by simp[World.setCell]),λk hk=>(a1.HF k hk).trans ?_,a1.os,a1.tape,a1.output⟩,by rw[a2];simp,λk=> ?_⟩
  ·simp[World.setCell,HZ,DK hk]
  ·rw[a3,YC,kq];by_cases hk:o=k
   ·subst hk;rw[aM (by omega),aH rfl,aH (by omega),aH (by omega),nR];rfl
   ·rw[aM hk];by_cases yT:o+1<=k/\k<o+1+vs.length
    ·rw[aH yT,aH (by omega),show k-o=(k-(o+1))+1 by omega,rU]
    ·rw[aM yT,aM (by omega)]
def aps (z:Value) (h:(z.cells.toList.all λv=>v.oneCell')=true):∀v∈z.cells.toList,v.oneCell'=true:=λv hv=>(iT.1 h) v hv
def i73:TypeInfo:=(Tryz.prog.info? 73).get (by kernel_rfl)
def I8:Tryz.prog.info? 73=some i73:=by kernel_rfl
def xU:i73.size=2:=by kernel_rfl
set_option maxHeartbeats 4000000 in
set_option maxRecDepth 1000000 in
def aEY (lF off n cap i j:Nat) (cs:List Value) (w:World) (Jd:cs.length=n*2) (hc:∀t v,cs[t]? =some v->w.cell? ⟨lF,off+t,none⟩=some v) (hf:∀t,t<n*2->w.frozen? ⟨lF,off+t,none⟩=false) (h1:∀v∈cs,v.oneCell'=true) (jh:n<=cap) (CC:i<j) (hj:j<=n):
  Calls Tryz.prog 182 #[.slice (some ⟨lF,off,none⟩) n cap,.int .i64 i,.int .i64 j] w λe w'=>e= .returned (.slice (some ⟨lF,off,none⟩) (n-(j-i)) cap)/\∃zs:List Value,zs.length=(j-i)*2/\(∀v∈zs,v.oneCell'=true)/\w'=(w.drew.setCells lF (off+i*2) (cs.drop (j*2))).setCells lF (off+(i+(n-j))*2) zs:=by
 have heq:¬(i=j):=by omega
 have heq':((i:Int)==(j:Int))=false:=by simp;omega
 obtain ⟨news,sU⟩:∃news,news=cs.drop (j*2):=⟨_,rfl⟩;have hlen:news.length=(n-j)*2:=by rw[sU,iE,Jd,yA]
 obtain ⟨A,hA,I1⟩:∃A:Addr,(if cap=j then some (⟨lF,off,none⟩:Addr) else some ⟨lF,off+j*2,none⟩)=some A/\Hid (∀t u,news[t]? =some u->w.drew.cell? (A.add t)=some u):=by
  by_cases h:cap=j
  ·refine ⟨⟨lF,off,none⟩,by simp[h],λt u hu=> ?_⟩
   have h0:news.length=0:=by rw[hlen];omega
   rw[vX.1 h0] at hu;simp at hu
  ·refine ⟨⟨lF,off+j*2,none⟩,by simp[h],λt u hu=> ?_⟩
   rw[sU,fc] at hu;rw[Addr.add_lit,show off+j*2+t=off+(j*2+t) by omega]
   exact hc _ _ hu
 have s1:Hid (news.length=(n-j)*2):=hlen;have s2:Hid (∀u∈news,u.oneCell'=true):=λu hu=>h1 u (pE (by rw[<-sU];exact hu))
 have F0:∀t,t<n*2->(w.cell? ⟨lF,off+t,none⟩).isSome=true:=λt ht=>by
  rw[hc t cs[t] (by rw[dJ])];rfl
 have s3:Hid (∀t,t<news.length->(w.drew.cell? ⟨lF,off+i*2+t,none⟩).isSome=true/\w.drew.frozen? ⟨lF,off+i*2+t,none⟩=false):=λt ht=>by
  rw[hlen] at ht;rw[fU];exact ⟨F0 (i*2+t) (by omega),hf (i*2+t) (by omega)⟩
 obtain ⟨W1,ta⟩:∃W1,W1=w.drew.setCells lF (off+i*2) news:=⟨_,rfl⟩;have OU:∀t,t<n*2->(W1.cell? ⟨lF,off+t,none⟩).isSome=true:=λt ht=>by
  rw[ta];exact yn lF _ _ _ (λk hk=>(s3 k hk).1) _ (F0 t ht)
 have fz1:∀t,t<n*2->W1.frozen? ⟨lF,off+t,none⟩=false:=λt ht=>by
  rw[ta,World.frozen?_setCells];exact hf t ht
 obtain ⟨zs,xc,mi,eA⟩:=MZ (P:=Tryz.prog) W1 40 73 _ 2 Tryz.underlying40 Tryz.zeroValue73 (by kernel_rfl) (aps _ (by kernel_rfl)) lF (off+(i+(n-j))*2) (n-(i+(n-j))) (cap-(i+(n-j))) (by omega)
  (λt ht=>by rw[fU];exact OU _ (by omega)) (λt ht=>by rw[fU];exact fz1 _ (by omega))
 have hic:i<=cap:=by omega
 have hjc:j<=cap:=by omega
 have hW:Hid (W1=w.drew.setCells lF (off+i*2) news):=ta;have hNW:Hid (news=cs.drop (j*2)):=sU;clear ta sU hlen F0 OU fz1 hc hf h1;go_enter Tryz.func182,Tryz.ntmps182;go_wp2_with fail;go_region_law (refine step_append_room rfl (.tmp 22) (.tmp 25) 40 rfl 73 i73 2 Tryz.underlying40 I8 xU lF off i cap (by simp[Act.eval,Act.put]) A (n-j) (cap-j) news (by simp[Act.eval,Act.put,hA]) s1.out I1.out s2.out (by omega) s3.out ?_;rw[<-hW.out])
 go_wp2;go_ret;refine ⟨?_,zs,by rw[xc];congr 1;omega,mi,?_⟩
 ·rw[show n-(j-i)=i+(n-j) by omega];rfl
 ·rw[hW.out,hNW.out]
def avc:amP Tryz.prog 182 2:=by
 refine ⟨⟨_,Tryz.func182,by kernel_rfl,by rw[show Tryz.f182.name= "slices.Delete[[]partsync/api.Column,partsync/api.Column]" by kernel_rfl];decide⟩,λm w b off n c i j cur e hb hl h1 CC hj uL=>callsIn_wide.2 ?_⟩
 have LM:∀t,w.cell? ⟨b,t,none⟩=cur[t]? :=λt=>tE hb
 have hlen:((cur.toList.drop off).take (n*2)).length=n*2:=by simp;omega
 have mM:∀t,t<n*2->((cur.toList.drop off).take (n*2))[t]? =cur[off+t]? :=λt ht=>by
  rw[fa,aH ht,fc,lx]
 refine (aEY b off n c i j ((cur.toList.drop off).take (n*2)) w hlen (λt v hv=> ?_) (λt ht=> ?_) (λv hv=> ?_) uL CC hj).mono ?_
 ·have ht:t<n*2:=by have:=(cf.1 hv).1;rwa[hlen] at this
  rw[LM,<-mM t ht];exact hv
 ·simp[World.frozen?,hb]
 ·obtain ⟨t,ht,e⟩:=Oj hv;rw[hlen] at ht;refine h1 t ht v ?_;rw[<-mM t ht,<-e];exact dJ _
 ·rintro r w' ⟨rfl,zs,xc,mi,rfl⟩;refine ⟨rfl,?_⟩;have sg:(((cur.toList.drop off).take (n*2)).drop (j*2)).length=(n-j)*2:=by rw[iE,hlen,yA]
  obtain ⟨c1,a1,a2,a3⟩:=lS (((cur.toList.drop off).take (n*2)).drop (j*2)) (off+i*2) w.drew cur hb (by rw[sg];omega)
  obtain ⟨c2,b1,b2,b3⟩:=lS zs (off+(i+(n-j))*2) _ c1 a1.heap (by rw[a2,xc];omega)
  refine ⟨c2,⟨b1.heap,b1.size.trans a1.size,λk hk=>(b1.HF k hk).trans (a1.HF k hk),b1.os.trans a1.os,b1.tape.trans a1.tape,b1.output.trans a1.output⟩,b2.trans a2,λk hk=> ?_,λt ht=> ?_,λt ht=> ?_⟩
  ·rw[b3,aM (by rw[xc];omega),a3,aM (by rw[sg];omega)]
  ·rw[b3,aM (by omega),a3,aH (by rw[sg];omega),show off+i*2+t-(off+i*2)=t by omega,fc,mM _ (by omega),fU]
  ·refine ⟨zs[t]'(by rw[xc];omega),?_,mi _ (rT _)⟩
   rw[b3,aH (by rw[xc];omega),show off+i*2+(n*2-j*2)+t-(off+(i+(n-j))*2)=t by omega]
   exact dJ _
def i44:TypeInfo:=(Tryz.prog.info? 44).get (by kernel_rfl)
def hi44:Tryz.prog.info? 44=some i44:=by kernel_rfl
def hs44:i44.size=5:=by kernel_rfl
set_option maxHeartbeats 4000000 in
set_option maxRecDepth 1000000 in
def aEX (lF off n cap i j:Nat) (cs:List Value) (w:World) (Jd:cs.length=n*5) (hc:∀t v,cs[t]? =some v->w.cell? ⟨lF,off+t,none⟩=some v) (hf:∀t,t<n*5->w.frozen? ⟨lF,off+t,none⟩=false) (h1:∀v∈cs,v.oneCell'=true) (jh:n<=cap) (CC:i<j) (hj:j<=n):
  Calls Tryz.prog 185 #[.slice (some ⟨lF,off,none⟩) n cap,.int .i64 i,.int .i64 j] w λe w'=>e= .returned (.slice (some ⟨lF,off,none⟩) (n-(j-i)) cap)/\∃zs:List Value,zs.length=(j-i)*5/\(∀v∈zs,v.oneCell'=true)/\w'=(w.drew.setCells lF (off+i*5) (cs.drop (j*5))).setCells lF (off+(i+(n-j))*5) zs:=by
 have heq:¬(i=j):=by omega
 have heq':((i:Int)==(j:Int))=false:=by simp;omega
 obtain ⟨news,sU⟩:∃news,news=cs.drop (j*5):=⟨_,rfl⟩;have hlen:news.length=(n-j)*5:=by rw[sU,iE,Jd,yA]
 obtain ⟨A,hA,I1⟩:∃A:Addr,(if cap=j then some (⟨lF,off,none⟩:Addr) else some ⟨lF,off+j*5,none⟩)=some A/\Hid (∀t u,news[t]? =some u->w.drew.cell? (A.add t)=some u):=by
  by_cases h:cap=j
  ·refine ⟨⟨lF,off,none⟩,by simp[h],λt u hu=> ?_⟩
   have h0:news.length=0:=by rw[hlen];omega
   rw[vX.1 h0] at hu;simp at hu
  ·refine ⟨⟨lF,off+j*5,none⟩,by simp[h],λt u hu=> ?_⟩
   rw[sU,fc] at hu;rw[Addr.add_lit,show off+j*5+t=off+(j*5+t) by omega]
   exact hc _ _ hu
 have s1:Hid (news.length=(n-j)*5):=hlen;have s2:Hid (∀u∈news,u.oneCell'=true):=λu hu=>h1 u (pE (by rw[<-sU];exact hu))
 have F0:∀t,t<n*5->(w.cell? ⟨lF,off+t,none⟩).isSome=true:=λt ht=>by
  rw[hc t cs[t] (by rw[dJ])];rfl
 have s3:Hid (∀t,t<news.length->(w.drew.cell? ⟨lF,off+i*5+t,none⟩).isSome=true/\w.drew.frozen? ⟨lF,off+i*5+t,none⟩=false):=λt ht=>by
  rw[hlen] at ht;rw[fU];exact ⟨F0 (i*5+t) (by omega),hf (i*5+t) (by omega)⟩
 obtain ⟨W1,ta⟩:∃W1,W1=w.drew.setCells lF (off+i*5) news:=⟨_,rfl⟩;have OU:∀t,t<n*5->(W1.cell? ⟨lF,off+t,none⟩).isSome=true:=λt ht=>by
  rw[ta];exact yn lF _ _ _ (λk hk=>(s3 k hk).1) _ (F0 t ht)
 have fz1:∀t,t<n*5->W1.frozen? ⟨lF,off+t,none⟩=false:=λt ht=>by
  rw[ta,World.frozen?_setCells];exact hf t ht
 obtain ⟨zs,xc,mi,eA⟩:=MZ (P:=Tryz.prog) W1 23 44 _ 5 Tryz.underlying23 Tryz.zeroValue44 (by kernel_rfl) (aps _ (by kernel_rfl)) lF (off+(i+(n-j))*5) (n-(i+(n-j))) (cap-(i+(n-j))) (by omega)
  (λt ht=>by rw[fU];exact OU _ (by omega)) (λt ht=>by rw[fU];exact fz1 _ (by omega))
 have hic:i<=cap:=by omega
 have hjc:j<=cap:=by omega
 have hW:Hid (W1=w.drew.setCells lF (off+i*5) news):=ta;have hNW:Hid (news=cs.drop (j*5)):=sU;clear ta sU hlen F0 OU fz1 hc hf h1;go_enter Tryz.func185,Tryz.ntmps185;go_wp2_with fail;go_region_law (refine step_append_room rfl (.tmp 22) (.tmp 25) 23 rfl 44 i44 5 Tryz.underlying23 hi44 hs44 lF off i cap (by simp[Act.eval,Act.put]) A (n-j) (cap-j) news (by simp[Act.eval,Act.put,hA]) s1.out I1.out s2.out (by omega) s3.out ?_;rw[<-hW.out])
 go_wp2;go_ret;refine ⟨?_,zs,by rw[xc];congr 1;omega,mi,?_⟩
 ·rw[show n-(j-i)=i+(n-j) by omega];rfl
 ·rw[hW.out,hNW.out]
def avb:amP Tryz.prog 185 5:=by
 refine ⟨⟨_,Tryz.func185,by kernel_rfl,by rw[show Tryz.f185.name= "slices.Delete[[]partsync/api.Table,partsync/api.Table]" by kernel_rfl];decide⟩,λm w b off n c i j cur e hb hl h1 CC hj uL=>callsIn_wide.2 ?_⟩
 have LM:∀t,w.cell? ⟨b,t,none⟩=cur[t]? :=λt=>tE hb
 have hlen:((cur.toList.drop off).take (n*5)).length=n*5:=by simp;omega
 have mM:∀t,t<n*5->((cur.toList.drop off).take (n*5))[t]? =cur[off+t]? :=λt ht=>by
  rw[fa,aH ht,fc,lx]
 refine (aEX b off n c i j ((cur.toList.drop off).take (n*5)) w hlen (λt v hv=> ?_) (λt ht=> ?_) (λv hv=> ?_) uL CC hj).mono ?_
 ·have ht:t<n*5:=by have:=(cf.1 hv).1;rwa[hlen] at this
  rw[LM,<-mM t ht];exact hv
 ·simp[World.frozen?,hb]
 ·obtain ⟨t,ht,e⟩:=Oj hv;rw[hlen] at ht;refine h1 t ht v ?_;rw[<-mM t ht,<-e];exact dJ _
 ·rintro r w' ⟨rfl,zs,xc,mi,rfl⟩;refine ⟨rfl,?_⟩;have sg:(((cur.toList.drop off).take (n*5)).drop (j*5)).length=(n-j)*5:=by rw[iE,hlen,yA]
  obtain ⟨c1,a1,a2,a3⟩:=lS (((cur.toList.drop off).take (n*5)).drop (j*5)) (off+i*5) w.drew cur hb (by rw[sg];omega)
  obtain ⟨c2,b1,b2,b3⟩:=lS zs (off+(i+(n-j))*5) _ c1 a1.heap (by rw[a2,xc];omega)
  refine ⟨c2,⟨b1.heap,b1.size.trans a1.size,λk hk=>(b1.HF k hk).trans (a1.HF k hk),b1.os.trans a1.os,b1.tape.trans a1.tape,b1.output.trans a1.output⟩,b2.trans a2,λk hk=> ?_,λt ht=> ?_,λt ht=> ?_⟩
  ·rw[b3,aM (by rw[xc];omega),a3,aM (by rw[sg];omega)]
  ·rw[b3,aM (by omega),a3,aH (by rw[sg];omega),show off+i*5+t-(off+i*5)=t by omega,fc,mM _ (by omega),fU]
  ·refine ⟨zs[t]'(by rw[xc];omega),?_,mi _ (rT _)⟩
   rw[b3,aH (by rw[xc];omega),show off+i*5+(n*5-j*5)+t-(off+(i+(n-j))*5)=t by omega]
   exact dJ _
def LI (w:World) (dT sT ty elem:TypeId) (i:TypeInfo) (sz:Nat) (b o dLen dCap:Nat) (a:Addr) (asW sCap k:Nat) (cs:List Value) (hu:P.underlying dT=some (.slice elem)) (hi:P.info? elem=some i) (hs:i.size=sz) (hk:Nat.min asW dLen=k) (hn:cs.length=k*sz) (I1:∀j v,cs[j]? =some v->w.cell? (a.add j)=some v) (hc:∀j,j<cs.length->(w.cell? ⟨b,o+j,none⟩).isSome=true) (hf:∀j,j<cs.length->w.frozen? ⟨b,o+j,none⟩=false) (h1:∀v∈cs,v.oneCell'=true):
  (Builtin.copy_ #[dT,sT] ty #[.slice (some ⟨b,o,none⟩) dLen dCap,.slice (some a) asW sCap]).run P w= .ok (goInt k) (w.setCells b o cs):=by
 subst hs;have hfc:=run_firstCells_some (P:=P) w i.size k a asW sCap cs hn I1;have nG:=run_storeCells_cells (P:=P) b o cs 0 w (by simpa using hc) (by simpa using hf) h1
 simp only[mZ] at nG;simp[Builtin.copy_,run_underlying hu,Builtin.lenOf,sizeOf,typeInfo,hi,hk,hfc,nG]
def wpC (w:World) {ops:Array Oper} (hgd:o.guard=none) (d s:Operand) (t t':TypeId) (ho:o.op= .call {callee:=.builtin .copy,args:= #[d,s],argTypes:= #[t,t']}) (v u:Value) (hd:a.eval d=v) (hs:a.eval s=u) (hr:(Builtin.copy_ #[t,t'] o.type #[v,u]).run P w= .ok v' w') (h:wpList P ops Q rest (a.put o.dst v') w'):wpList P ops Q (o::rest) a w:=
 wpList_plain hgd λ_ hK=>by
  unfold Oper.wp execOp;simp only[ho,resolve,invoke,builtin,Sem.run_bind,Sem.run_pure,Result.andThen_ok,List.map_toArray,iZ,uD,hd,hs,hr];exact hK _ _ h
def awo {ops:Array Oper} (hg:o.guard=none) (d x:Operand) (dT sT:TypeId) (eP:o.op=Op.call {callee:=Callee.builtin Builtin.copy,args:= #[d,x],argTypes:= #[dT,sT]}) (v u:Value) (hd:a.eval d=v) (hx:a.eval x=u) (hr:(Builtin.copy_ #[dT,sT] o.type #[v,u]).run P w= .ok v' w') (hK:K (a.put o.dst v') w'):
  if Region.wanted o (yielded ops a.tmps)=true then Oper.wp P o a w K Q else E:=by
 have hw:Region.wanted o (yielded ops a.tmps)=true:=by simp[Region.wanted,hg]
 rw[aH hw];unfold Oper.wp;simp[execOp,eP,resolve,invoke,builtin,hd,hx,hr,Result.andThen];exact hK
structure ada (w:World) (b off n c vb jq q vc:Nat) (cs vs:List Value):Prop where
 cl:cs.length=n*2
 vl:vs.length=q*2
 hc:∀j v,cs[j]? =some v->w.cell? ⟨b,off+j,none⟩=some v
 hv:∀j v,vs[j]? =some v->w.cell? ⟨vb,jq+j,none⟩=some v
 sp:∀j,j<c*2->(w.cell? ⟨b,off+j,none⟩).isSome=true
 fz:∀j,j<c*2->w.frozen? ⟨b,off+j,none⟩=false
 h1:∀v∈cs,v.oneCell'=true
 h2:∀v∈vs,v.oneCell'=true
set_option maxHeartbeats 4000000 in
set_option maxRecDepth 1000000 in
def abb (b off n c vb jq q vc:Nat) (cs vs:List Value) (w:World) (I:ada w b off n c vb jq q vc cs vs) (hq:0<q) (mq:n+q<=c):
  Calls Tryz.prog 184 #[.slice (some ⟨b,off,none⟩) n c,.int .i64 n,.slice (some ⟨vb,jq,none⟩) q vc] w λe w'=>e= .returned (.slice (some ⟨b,off,none⟩) (n+q) c)/\w'=w.setCells b (off+n*2) vs:=by
 have xc:¬((q:Int)=0):=by omega
 have ln:∀ty,(Builtin.append_ #[40,40] ty #[.slice (some ⟨b,off,none⟩) n c,.slice (some ⟨vb,jq,none⟩) q vc]).run Tryz.prog w= .ok (.slice (some ⟨b,off,none⟩) (n+q) c) (w.setCells b (off+n*2) vs):=λty=>by
  have h:=run_append_room_cells (P:=Tryz.prog) w 40 ty 73 i73 Tryz.underlying40 I8 b off n c ⟨vb,jq,none⟩ q vc vs (by rw[I.vl,xU]) (λj u hj=>by rw[Addr.add_lit];exact I.hv j u hj) I.h2 mq
   (λj hj=>by rw[xU,fU];rw[I.vl] at hj;exact I.sp _ (by omega)) (λj hj=>by rw[xU,fU];rw[I.vl] at hj;exact I.fz _ (by omega))
  rw[xU] at h;exact h
 clear I;go_enter Tryz.func184,Tryz.ntmps184;go_wp2_with (at_builtin;refine Lib.wpList_append_run _ rfl _ _ _ _ rfl _ _ rfl rfl _ _ (ln _) ?_);go_ret;exact ⟨rfl,rfl⟩
def z73:i73.zero=some i73.zero.get! :=by kernel_rfl
def b73:i73.bytes=24:=by kernel_rfl
def asw:(i73.zero.get!).cells.size=2:=by kernel_rfl
set_option maxHeartbeats 4000000 in
set_option maxRecDepth 1000000 in
def abc (b off n c vb jq q vc:Nat) (cs vs:List Value) (w:World) (I:ada w b off n c vb jq q vc cs vs) (hq:0<q) (mq:c<n+q) (xf:n<=1000000) (hq6:q<=1000000) (uL:n<=c):
  Calls Tryz.prog 184 #[.slice (some ⟨b,off,none⟩) n c,.int .i64 n,.slice (some ⟨vb,jq,none⟩) q vc] w λe w'=>∃G,e= .returned (.slice (some ⟨w.heap.size,0,none⟩) (n+q) G)/\n+q<=G/\∃iV:Array Value,G*2<=iV.size/\(∀t,t<(n+q)*2->iV[t]? =(cs++vs)[t]?)/\Nw w w' 73 iV:=by
 have xc:¬((q:Int)=0):=by omega
 have I1:Src Tryz.prog i73.size 40 (.slice (some ⟨vb,jq,none⟩) q vc) q vs w:=by
  rw[xU];exact Src.ofSlice w Tryz.underlying40 ⟨vb,jq,none⟩ q vc vs I.vl (λj u hj=>by rw[Addr.add_lit];exact I.hv j u hj) I.h2
 have hold:(Builtin.firstCells i73.size n (.slice (some ⟨b,off,none⟩) n c)).run Tryz.prog w.drew= .ok cs.toArray w.drew:=by
  rw[xU];exact run_firstCells_some w.drew 2 n ⟨b,off,none⟩ n c cs I.cl (λj v hj=>by rw[Addr.add_lit];exact I.hc j v hj)
 obtain ⟨G,hG⟩:∃G,G=grownCap w (n+q) c 73:=⟨_,rfl⟩;obtain ⟨cur,Du⟩:∃cur:Array Value,cur=(cs++vs).toArray++Builtin.zeroCells (i73.zero.get!).cells (G-(n+q)):=⟨_,rfl⟩;have hGe:n+q<=G:=by rw[hG];exact grownCap_ge w _ _ _
 have mD:cur.size=G*2:=by
  rw[Du];simp[Builtin.zeroCells,asw,I.cl,I.vl];omega
 have mM:∀t,t<(n+q)*2->cur[t]? =(cs++vs)[t]? :=λt ht=>by
  rw[Du,HX (by simp[I.cl,I.vl];omega),HW]
 have ln:∀ty,(Builtin.append_ #[40,40] ty #[.slice (some ⟨b,off,none⟩) n c,.slice (some ⟨vb,jq,none⟩) q vc]).run Tryz.prog w= .ok (.slice (some ⟨w.heap.size,0,none⟩) (n+q) G) (w.drew.alloc (.cells cur 73)):=λty=>by
  have h:=run_append_grow_src w 40 40 ty 73 i73 _ Tryz.underlying40 I8 z73 (some ⟨b,off,none⟩) n c cs hold _ q vs I1 mq (by omega) (growslice_fits mq (by rw[b73];omega))
  rw[<-hG,<-Du] at h;exact h
 clear I hold I1 hG Du;go_enter Tryz.func184,Tryz.ntmps184;go_wp2_with (at_builtin;refine Lib.wpList_append_run _ rfl _ _ _ _ rfl _ _ rfl rfl _ _ (ln _) ?_);all_goals (go_ret;exact ⟨G,rfl,hGe,cur,by omega,mM,⟨rfl,rfl,rfl,rfl⟩⟩)
set_option maxHeartbeats 4000000 in
set_option maxRecDepth 1000000 in
def aqP (b off n c i vb jq q vc:Nat) (cs vs:List Value) (w:World) (I:ada w b off n c vb jq q vc cs vs) (hi:i<n) (hq:0<q) (mq:n+q<=c) (hvb:vb≠b) (xf:n<=1000000) (hq6:q<=1000000)
  (tA tB:TypeId) (kA kB:Nat) (hsa:w.shape? vb=some (tA,kA)) (hsb:w.shape? b=some (tB,kB)) (hkB:kB≠0) (hfa:w.frozen? ⟨vb,jq,none⟩=false) (hfe:w.frozen? ⟨vb,kA,none⟩=false):
  Calls Tryz.prog 184 #[.slice (some ⟨b,off,none⟩) n c,.int .i64 i,.slice (some ⟨vb,jq,none⟩) q vc] w λe w'=>e= .returned (.slice (some ⟨b,off,none⟩) (n+q) c)/\w'=(w.drew.setCells b (off+(i+q)*2) (cs.drop (i*2))).setCells b (off+i*2) vs:=by
 have xc:¬((q:Int)=0):=by omega
 have mi:¬((i:Int)=(n:Int)):=by omega
 have hz3:¬((c:Int)<(n:Int)+(q:Int)):=by omega
 have hov:∀lb cb,(callFunc 199 #[.slice (some ⟨vb,jq,none⟩) q vc,.slice (some ⟨b,off+(i+q)*2,none⟩) lb cb]).run Tryz.prog w= .ok (.value (.bool false)) w:=λlb cb=>by
  rw[run_callFunc_extern Tryz.func199 (by kernel_rfl) (by kernel_rfl) (by kernel_rfl) (e:=Extern.SlicesOverlaps.overlaps #[40,40] #[4]) (by kernel_rfl),
   Lib.run_overlaps_apart w 40 4 73 Tryz.underlying40 2 Tryz.sizeOf73 ⟨vb,jq,none⟩ ⟨b,off+(i+q)*2,none⟩ q vc lb cb hvb tA tB kA kB hsa hsb hkB hfa hfe]
  rfl
 have sg:(cs.drop (i*2)).length=(n-i)*2:=by rw[iE,I.cl,yA]
 have hw1:IntKind.i64.wrap ((i:Int)+(q:Int))=(i:Int)+(q:Int):=by rw[IntKind.wrap_i64];omega
 have hw2:IntKind.i64.wrap ((n:Int)+(q:Int))=(n:Int)+(q:Int):=by rw[IntKind.wrap_i64];omega
 have Jh:(0:Int)<=(i:Int)+(q:Int):=by omega
 have il:i<=n:=by omega
 have htn:((i:Int)+(q:Int)).toNat=i+q:=by omega
 have EI:¬(c=i+q):=by omega
 have hb3:(i:Int)<=(n:Int)+(q:Int):=by omega
 have hb4:¬(c=i):=by omega
 have hcp1:∀ty dc sc,(Builtin.copy_ #[40,40] ty #[.slice (some ⟨b,off+(i+q)*2,none⟩) (n+q-(i+q)) dc,.slice (some ⟨b,off+i*2,none⟩) (n+q-i) sc]).run Tryz.prog w.drew= .ok (goInt (n-i:Nat)) (w.drew.setCells b (off+(i+q)*2) (cs.drop (i*2))):=λty dc sc=>
  LI w.drew 40 40 ty 73 i73 2 b (off+(i+q)*2) (n+q-(i+q)) dc ⟨b,off+i*2,none⟩ (n+q-i) sc (n-i) (cs.drop (i*2)) Tryz.underlying40 I8 xU (by simp only[Oi];split<;>omega) sg
   (λj v hj=>by rw[Addr.add_lit,fU];exact I.hc (i*2+j) v (by rwa[fc] at hj))
   (λj hj=>by rw[sg] at hj;rw[fU];exact I.sp _ (by omega)) (λj hj=>by rw[sg] at hj;rw[fU];exact I.fz _ (by omega)) (λv hv=>I.h1 v (pE hv))
 obtain ⟨W1,ta⟩:∃W1,W1=w.drew.setCells b (off+(i+q)*2) (cs.drop (i*2)):=⟨_,rfl⟩;have hsp1:∀k,k<c*2->(W1.cell? ⟨b,off+k,none⟩).isSome=true:=λk hk=>by
  rw[ta];exact yn b _ _ _ (λj hj=>by rw[sg] at hj;rw[fU];exact I.sp _ (by omega)) _ (I.sp k hk)
 have hcp2:∀ty dc,(Builtin.copy_ #[40,40] ty #[.slice (some ⟨b,off+i*2,none⟩) (n+q-i) dc,.slice (some ⟨vb,jq,none⟩) q vc]).run Tryz.prog W1= .ok (goInt (q:Nat)) (W1.setCells b (off+i*2) vs):=λty dc=>
  LI W1 40 40 ty 73 i73 2 b (off+i*2) (n+q-i) dc ⟨vb,jq,none⟩ q vc q vs Tryz.underlying40 I8 xU (by simp only[Oi];split<;>omega) I.vl
   (λj v hj=>by
    rw[Addr.add_lit,ta,World.cell?_setCells_out b _ _ _ _ (λh _=>absurd h hvb)]
    exact I.hv j v hj)
   (λj hj=>by rw[I.vl] at hj;rw[fU];exact hsp1 _ (by omega)) (λj hj=>by rw[I.vl] at hj;rw[ta,World.frozen?_setCells,fU];exact I.fz _ (by omega)) I.h2
 rw[<-ta] at hcp1;have hW:Hid (W1=w.drew.setCells b (off+(i+q)*2) (cs.drop (i*2))):=ta;clear I hsp1 sg ta;go_enter Tryz.func184,Tryz.ntmps184;go_wp2_with (simp only[hov]);go_region_law (refine awo rfl _ _ 40 40 rfl _ _ (by simp[Act.eval,Act.put]) (by simp[Act.eval,Act.put]) (hcp1 _ _ _) ?_)
 go_wp2_with (at_builtin;refine wpC _ rfl _ _ 40 40 rfl _ _ rfl rfl (hcp2 _ _) ?_);go_ret;exact ⟨rfl,by rw[hW.out]⟩
set_option maxHeartbeats 4000000 in
set_option maxRecDepth 1000000 in
def atH (b off n c i vb jq q vc:Nat) (cs vs:List Value) (w:World) (I:ada w b off n c vb jq q vc cs vs) (hi:i<n) (hq:0<q) (mq:c<n+q) (xf:n<=1000000) (hq6:q<=1000000) (uL:n<=c) (hbw:b<w.heap.size) (hvw:vb<w.heap.size):
  Calls Tryz.prog 184 #[.slice (some ⟨b,off,none⟩) n c,.int .i64 i,.slice (some ⟨vb,jq,none⟩) q vc] w λe w'=>∃G,e= .returned (.slice (some ⟨w.heap.size,0,none⟩) (n+q) G)/\n+q<=G/\∃wU:Array Value,wU.size=G*2/\(∀t,t<i*2->wU[t]? =cs[t]?)/\w'=((w.drew.alloc (.cells wU 73)).setCells w.heap.size (i*2) vs).drew.setCells w.heap.size ((i+q)*2) (cs.drop (i*2)):=by
 have xc:¬((q:Int)=0):=by omega
 have mi:¬((i:Int)=(n:Int)):=by omega
 have hz3:(c:Int)<(n:Int)+(q:Int):=by omega
 have hkk:(n:Int)+(q:Int)-(i:Int)=((n+q-i:Nat):Int):=by omega
 have hik:i+(n+q-i)=n+q:=by omega
 have hold:(Builtin.firstCells i73.size i (.slice (some ⟨b,off,none⟩) i c)).run Tryz.prog w.drew= .ok (cs.take (i*2)).toArray w.drew:=by
  rw[xU];exact run_firstCells_some w.drew 2 i ⟨b,off,none⟩ i c (cs.take (i*2)) (by rw[dZ,I.cl];omega) (λj v hj=>by
   rw[Addr.add_lit];rw[fa] at hj;split at hj
   ·exact I.hc j v hj
   ·cases hj)
 obtain ⟨G,hG⟩:∃G,G=grownCap w (n+q) c 73:=⟨_,rfl⟩;obtain ⟨wU,akY⟩:∃wU:Array Value,wU=(cs.take (i*2)).toArray++Builtin.zeroCells (i73.zero.get!).cells (n+q-i)++Builtin.zeroCells (i73.zero.get!).cells (G-(n+q)):=⟨_,rfl⟩;have hrz:∀ty,(Builtin.append_ #[40,3] ty #[.slice (some ⟨b,off,none⟩) i c,.int .i64 ((n:Int)+(q:Int)-(i:Int))]).run Tryz.prog w= .ok (.slice (some ⟨w.heap.size,0,none⟩) (n+q) G) (w.drew.alloc (.cells wU 73)):=λty=>by
  have h:=Lib.run_append_grow_zeros w 40 3 ty 73 i73 _ .i64 .i64 Tryz.underlying40 Tryz.underlying3 I8 z73 (some ⟨b,off,none⟩) i c (cs.take (i*2)) hold (n+q-i) (by omega) (by rw[xU];omega) (by omega) (by omega) (by rw[b73];omega) (by rw[b73,hik];exact growslice_fits mq (by omega))
  rw[hik,<-hG,<-akY] at h;rw[hkk];exact h
 have hGn:n+q<=G:=by rw[hG];exact grownCap_ge w _ _ _
 have hRl:wU.size=G*2:=by
  rw[akY];simp[Builtin.zeroCells,asw,I.cl];omega
 have hRg:∀t,t<i*2->wU[t]? =cs[t]? :=λt ht=>by
  rw[akY,HX (by simp[Builtin.zeroCells,asw,I.cl];omega),HX (by simp[I.cl];omega),HW,fa,aH ht]
 obtain ⟨W1,ta⟩:∃W1,W1=w.drew.alloc (.cells wU 73):=⟨_,rfl⟩;have hN:∀j,j<G*2->(W1.cell? ⟨w.heap.size,j,none⟩).isSome=true:=λj hj=>by
  rw[ta,World.cell?_alloc_at (w:=w.drew) wU _ w.heap.size j rfl,nS (by omega)];rfl
 have hNf:∀j,W1.frozen? ⟨w.heap.size,j,none⟩=false:=λj=>by rw[ta];exact World.frozen?_alloc_at (w:=w.drew) wU _ w.heap.size j rfl
 have hOb:∀j v,w.cell? ⟨b,j,none⟩=some v->W1.cell? ⟨b,j,none⟩=some v:=λj v h=>by rw[ta,World.cell?_alloc_past (w:=w.drew) _ b j hbw];exact h
 have hOv:∀j v,w.cell? ⟨vb,j,none⟩=some v->W1.cell? ⟨vb,j,none⟩=some v:=λj v h=>by rw[ta,World.cell?_alloc_past (w:=w.drew) _ vb j hvw];exact h
 have hG63:G<=9223372036854775807:=by
  have:=grownCap_le_maxLen w (n+q) c 73 (by unfold maxLen;omega)
  rw[<-hG] at this;unfold maxLen at this;omega
 have hcpA:∀(W:World),(∀x,W.cell? x=W1.cell? x)->(∀x,W.frozen? x=W1.frozen? x)->∀ty dc,(Builtin.copy_ #[40,40] ty #[.slice (some ⟨w.heap.size,i*2,none⟩) (n+q-i) dc,.slice (some ⟨vb,jq,none⟩) q vc]).run Tryz.prog W= .ok (goInt (q:Nat)) (W.setCells w.heap.size (i*2) vs):=λW hWc hWf ty dc=>
  LI W 40 40 ty 73 i73 2 w.heap.size (i*2) (n+q-i) dc ⟨vb,jq,none⟩ q vc q vs Tryz.underlying40 I8 xU (by simp only[Oi];split<;>omega) I.vl
   (λj v hj=>by rw[Addr.add_lit,hWc];exact hOv _ v (I.hv j v hj))
   (λj hj=>by rw[hWc];rw[I.vl] at hj;exact hN _ (by omega)) (λj hj=>by rw[hWf];exact hNf _) I.h2
 have hbN:b≠w.heap.size:=by omega
 have sg:(cs.drop (i*2)).length=(n-i)*2:=by rw[iE,I.cl,yA]
 have hcpB:∀(W:World),(∀x,W.cell? x=(W1.setCells w.heap.size (i*2) vs).cell? x)->(∀x,W.frozen? x=(W1.setCells w.heap.size (i*2) vs).frozen? x)->∀ty dc sc,(Builtin.copy_ #[40,40] ty #[.slice (some ⟨w.heap.size,(i+q)*2,none⟩) (n+q-(i+q)) dc,.slice (some ⟨b,off+i*2,none⟩) (n-i) sc]).run Tryz.prog W= .ok (goInt (n-i:Nat)) (W.setCells w.heap.size ((i+q)*2) (cs.drop (i*2))):=λW hWc hWf ty dc sc=>
  LI W 40 40 ty 73 i73 2 w.heap.size ((i+q)*2) (n+q-(i+q)) dc ⟨b,off+i*2,none⟩ (n-i) sc (n-i) (cs.drop (i*2)) Tryz.underlying40 I8 xU (by simp only[Oi];split<;>omega) sg
   (λj v hj=>by
    rw[Addr.add_lit,hWc,World.cell?_setCells_out _ _ _ _ _ (λh _=>absurd h hbN),fU]
    exact hOb _ v (I.hc (i*2+j) v (by rwa[fc] at hj)))
   (λj hj=>by rw[sg] at hj;rw[hWc];exact yn _ _ _ _ (λt ht=>by rw[I.vl] at ht;exact hN _ (by omega)) _ (hN _ (by omega)))
   (λj hj=>by rw[hWf,World.frozen?_setCells];exact hNf _) (λv hv=>I.h1 v (pE hv))
 have hGi:¬(G=i):=by omega
 have hGim:¬(G=i+q):=by omega
 have xi:¬(c=i):=by omega
 have hw1:IntKind.i64.wrap ((i:Int)+(q:Int))=(i:Int)+(q:Int):=by rw[IntKind.wrap_i64];omega
 have Jh:(0:Int)<=(i:Int)+(q:Int):=by omega
 have il:i<=n:=by omega
 have htn:((i:Int)+(q:Int)).toNat=i+q:=by omega
 have hb3:(i:Int)<=(n:Int):=by omega
 rw[<-ta] at hrz;have hW:Hid (W1=w.drew.alloc (.cells wU 73)):=ta;have hA:=λty dc=>hcpA W1 (λ_=>rfl) (λ_=>rfl) ty dc
 obtain ⟨W2,hW2⟩:∃W2,W2=W1.setCells w.heap.size (i*2) vs:=⟨_,rfl⟩;rw[<-hW2] at hA;have hB:=λty dc sc=>hcpB W2.drew (λ_=>by rw[hW2];rfl) (λ_=>by rw[hW2];rfl) ty dc sc
 have hW2':Hid (W2=W1.setCells w.heap.size (i*2) vs):=hW2;clear hkk hik hold akY hG I hN hNf hOb hOv hcpA hcpB sg ta hW2 hbw hvw;go_enter Tryz.func184,Tryz.ntmps184;go_wp2_with (first
  |(at_builtin;refine Lib.wpList_append_run _ rfl _ _ _ _ rfl _ _ rfl rfl _ _ (hrz _) ?_)
  |(at_builtin;refine wpC _ rfl _ _ 40 40 rfl _ _ rfl rfl (hA _ _) ?_))
 go_region_law (refine awo rfl _ _ 40 40 rfl (.slice (some ⟨w.heap.size,(i+q)*2,none⟩) (n+q-(i+q)) (G-(i+q))) (.slice (some ⟨b,off+i*2,none⟩) (n-i) (c-i)) (by simp[Act.eval,Act.put]) (by simp[Act.eval,Act.put]) (hB 3 (G-(i+q)) (c-i)) ?_)
 go_wp2;go_ret;exact ⟨G,rfl,hGn,wU,hRl,hRg,by rw[hW2'.out,hW.out]⟩
def aBN {xs ys:List J} (hk:k<=xs.length) (t:Nat):(zp xs k ys)[t]? =if t<k then xs[t]? else if t<k+ys.length then ys[t-k]? else xs[t-ys.length]? :=by
 show (xs.take k++(ys++xs.drop k))[t]? =_;rw[qD,dZ,fE hk];by_cases q1:t<k
 ·rw[aH q1,aH q1,fa,aH q1]
 ·rw[aM q1,aM q1,qD];by_cases q2:t<k+ys.length
  ·rw[aH (by omega),aH q2]
  ·rw[aM (by omega),aM q2,fc]
   congr 1;omega
def atI:ayN Tryz.prog 184 73 2:=by
 refine ⟨⟨_,Tryz.func184,by kernel_rfl,by rw[show Tryz.f184.name= "slices.Insert[[]partsync/api.Column,partsync/api.Column]" by kernel_rfl];decide⟩,λm w b off n c i vb jq q vc cur GW ev hb hvb cY Jd wA h1 h2 uL xf hq hq6 il=>callsIn_wide.2 ?_⟩
 have LM:∀t,w.cell? ⟨b,t,none⟩=cur[t]? :=λt=>tE hb
 have aKx:∀t,w.cell? ⟨vb,t,none⟩=GW[t]? :=λt=>tE hvb
 obtain ⟨cs,auo⟩:∃cs,cs=(cur.toList.drop off).take (n*2):=⟨_,rfl⟩;obtain ⟨vs,aua⟩:∃vs,vs=(GW.toList.drop jq).take (q*2):=⟨_,rfl⟩;have lc:cs.length=n*2:=by rw[auo];simp;omega
 have lv:vs.length=q*2:=by rw[aua];simp;omega
 have gc:∀t,t<n*2->cs[t]? =cur[off+t]? :=λt ht=>by rw[auo,fa,aH ht,fc,lx]
 have gv:∀t,t<q*2->vs[t]? =GW[jq+t]? :=λt ht=>by rw[aua,fa,aH ht,fc,lx]
 have I:ada w b off n c vb jq q vc cs vs:=by
  refine ⟨lc,lv,λt v hv=> ?_,λt v hv=> ?_,λt ht=> ?_,λt ht=> ?_,λv hv=> ?_,λv hv=> ?_⟩
  ·have ht:t<n*2:=by have:=(cf.1 hv).1;rwa[lc] at this
   rw[LM,<-gc t ht];exact hv
  ·have ht:t<q*2:=by have:=(cf.1 hv).1;rwa[lv] at this
   rw[aKx,<-gv t ht];exact hv
  ·rw[LM,nS (by omega)];rfl
  ·simp[World.frozen?,hb]
  ·obtain ⟨t,ht,e⟩:=Oj hv;rw[lc] at ht;refine h1 t ht v ?_;rw[<-gc t ht,<-e];exact dJ _
  ·obtain ⟨t,ht,e⟩:=Oj hv;rw[lv] at ht;refine h2 t ht v ?_;rw[<-gv t ht,<-e];exact dJ _
 rw[<-auo,<-aua];have G:∀t,(zp cs (i*2) vs)[t]? =if t<i*2 then cs[t]? else if t<i*2+q*2 then vs[t-i*2]? else cs[t-q*2]? :=λt=>by
  rw[aBN (by rw[lc];omega),lv]
 rcases Nat.eq_or_lt_of_le il with rfl|cV
 ·by_cases mq:i+q<=c
  ·refine (abb b off i c vb jq q vc cs vs w I hq mq).mono ?_;rintro r w' ⟨rfl,rfl⟩;obtain ⟨c1,a1,a2,a3⟩:=lS vs (off+i*2) w cur hb (by rw[lv];omega)
   refine ⟨b,off,c,c1,rfl,mq,by rw[a2];exact Jd,λt ht=> ?_,.inl ⟨rfl,rfl,a1⟩⟩
   rw[G,a3,lv];by_cases q1:t<i*2
   ·rw[aM (by omega),aH q1,gc t q1]
   ·rw[aH (by omega),aM q1,aH (by omega),show off+t-(off+i*2)=t-i*2 by omega]
  ·refine (abc b off i c vb jq q vc cs vs w I hq (by omega) xf hq6 uL).mono ?_
   rintro r w' ⟨G',rfl,hG,c1,mD,mM,hw⟩;refine ⟨w.heap.size,0,G',c1,rfl,hG,by omega,λt ht=> ?_,.inr ⟨rfl,rfl,hw⟩⟩
   rw[G,cC,mM t ht,qD,lc];by_cases q1:t<i*2
   ·rw[aH q1,aH q1]
   ·rw[aM q1,aM q1,aH (by omega)]
 ·have hld:(cs.drop (i*2)).length=(n-i)*2:=by rw[iE,lc,yA]
  by_cases mq:n+q<=c
  ·refine (aqP b off n c i vb jq q vc cs vs w I cV hq mq cY xf hq6 ev 73 GW.size cur.size (by simp[World.shape?,hvb]) (by simp[World.shape?,hb]) (by omega) (by simp[World.frozen?,hvb]) (by simp[World.frozen?,hvb])).mono ?_
   rintro r w' ⟨rfl,rfl⟩;obtain ⟨c1,a1,a2,a3⟩:=lS (cs.drop (i*2)) (off+(i+q)*2) w.drew cur hb (by rw[hld];omega)
   obtain ⟨c2,b1,b2,b3⟩:=lS vs (off+i*2) _ c1 a1.heap (by rw[lv,a2];omega)
   refine ⟨b,off,c,c2,rfl,mq,by rw[b2,a2];exact Jd,λt ht=> ?_,.inl ⟨rfl,rfl,⟨b1.heap,b1.size.trans a1.size,λk hk=>(b1.HF k hk).trans (a1.HF k hk),b1.os.trans a1.os,b1.tape.trans a1.tape,b1.output.trans a1.output⟩⟩⟩
   rw[G,b3,lv];by_cases q1:t<i*2
   ·rw[aM (by omega),aH q1,a3,aM (by omega),gc t (by omega)]
   ·rw[aM q1];by_cases q2:t<i*2+q*2
    ·rw[aH (by omega),aH q2,show off+t-(off+i*2)=t-i*2 by omega]
    ·rw[aM (by omega),aM q2,a3,aH (by rw[hld];omega),fc]
     congr 1;omega
  ·have hbw:=(na.1 hb).1;have hvw:=(na.1 hvb).1;refine (atH b off n c i vb jq q vc cs vs w I cV hq (by omega) xf hq6 uL hbw hvw).mono ?_
   rintro r w' ⟨G',rfl,hG,wU,mD,mM,rfl⟩;have hW:(w.drew.alloc (.cells wU 73)).heap[w.heap.size]? =some (.cells wU 73 (0,0)):=heap_alloc_new w.drew _;obtain ⟨c1,a1,a2,a3⟩:=lS vs (i*2) _ wU hW (by rw[lv];omega)
   obtain ⟨c2,b1,b2,b3⟩:=lS (cs.drop (i*2)) ((i+q)*2) (World.drew _) c1 a1.heap (by rw[hld,a2];omega)
   refine ⟨w.heap.size,0,G',c2,rfl,hG,by omega,λt ht=> ?_,.inr ⟨rfl,rfl,?_,b1.os.trans a1.os,b1.tape.trans a1.tape,b1.output.trans a1.output⟩⟩
   ·rw[G,cC,b3,hld];by_cases q1:t<i*2
    ·rw[aM (by omega),aH q1,a3,aM (by omega),mM t q1]
    ·rw[aM q1];by_cases q2:t<i*2+q*2
     ·rw[aM (by omega),aH q2,a3,aH (by rw[lv];omega)]
     ·rw[aH (by omega),aM q2,fc]
      congr 1;omega
   ·have hs:((w.drew.alloc (.cells wU 73))).heap.size=w.heap.size+1:=by simp
    apply Array.ext_getElem?;intro k;rw[Array.getElem?_push];by_cases hk:k=w.heap.size
    ·subst hk;rw[aH rfl];exact b1.heap
    ·rw[aM hk,b1.HF k hk];refine (a1.HF k hk).trans ?_;by_cases yT:k<w.heap.size
     ·exact heap_alloc_old w.drew _ yT
     ·rw[Oh (by rw[hs];omega),Oh (by omega)]
end Go.Proofs.YtbnkhmoelnfjoaaGreat
end
